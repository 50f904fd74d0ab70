import Derived.Test.YtfkfiokkjjnhiaaGreatUp3
import Derived.Lib.Hide
import Derived.Carry
import Derived.Test.YtfkfiokkjjnhiaaGreatUp1
import Derived.Laws.CopyOwn
import Derived.Deep.OwnRows
import Derived.Test.YtfkfiokkjjnhiaaGreatRows
import Derived.Lib.ConvBytes
import Derived.Test.YtfkfiokkjjnhiaaGreatUp2
import Derived.Deep.DeepCutAuto
import Derived.BigQuiet
import Derived.Deep.LoopGhost
import Derived.Shelf.Small.Utf8
import Derived.Shelf.Small.Bits
import Derived.Shelf.Small.Strs
import Derived.Shelf.Small.Wraps
import Derived.Shelf.Strconv.Itoa0
import Derived.Shelf.Strings.Search1
import Derived.Shelf.Strings.Runes
import Derived.Shelf.Bits.Mul64
import Derived.Ground.Names2Prog
import Derived.Shelf.Slices.SearchI
import Derived.Ground.SlgmProg
import Derived.Shelf.SortM.Plain
import Derived.Shelf.SortM.SortNone
import Derived.Test.YtfkfiokkjjnhiaaGreatProg
set_option linter.unusedVariables false
set_option linter.unusedSimpArgs false
set_option maxHeartbeats 16000000
namespace Go.Proofs.YtfkfiokkjjnhiaaGreat
open Go.RowKit
def ChAt (w : World) (p b : Nat) (C : List Ac) : Prop := Blk w p 269 #[.map (some b)] ∧ MapAt w 9 b (ents C) ∧ p ≠ b
section
variable {F : Nat → Prop} {w w' : World} {p b : Nat} {C : List Ac}
theorem ChAt.mod (h : ChAt w p b C) (hm : Mod F w w') (hp : ¬ F p) (hb : ¬ F b) : ChAt w' p b C := ⟨h.1.mod hm hp, h.2.1.mod hm hb, h.2.2⟩
theorem ChAt.mod0 (h : ChAt w p b C) (hm : Mod none_ w w') : ChAt w' p b C := h.mod hm (fun h => h) (fun h => h)
theorem ChAt.alloc (h : ChAt w p b C) (o : Obj) : ChAt (w.alloc o) p b C := h.mod0 ((Mod.refl _ _).alloc o)
theorem ChAt.sorted (h : ChAt w p b C) : SortedC C := (sortedC_iff C).1 (h.2.1.sorted Tryz.underlying9)
end
theorem results_cell2 {fn : Func} {p u : Tmp} {ty : TypeId} (h : fn.results = #[.cell p ty, .tmp u]) (tmps : Array Value) (w : World) (g : Nat) (cs : Array Value)
  (hp : tmps.getD p undef = .pointer (some ⟨g, 0, none⟩)) (hl : (loadVar ty ⟨g, 0, none⟩).run Tryz.prog w = .ok (.agg cs) w) :
  (results fn tmps).run Tryz.prog w = .ok (.tuple #[.agg cs, tmps.getD u undef]) w := by
 have hp' : tmps[p]?.getD undef = .pointer (some ⟨g, 0, none⟩) := by simpa using hp
 simp [results, h, hp', asAddr, hl]
def zeroA : Value := .agg #[.string ⟨#[]⟩, .int .i64 0, .int .i64 0, .int .i64 0]
def getV (C : List Ac) (s : List UInt8) : Value × Int := match getC C s with | some a => (acV a, 0) | none => (zeroA, 6)
def ChGetPost (r : Value × Int) (w : World) (e : Ending) (w' : World) : Prop := e = .returned (.tuple #[r.1, .int .i64 r.2]) ∧ Mod none_ w w'
set_option maxRecDepth 100000
theorem zeroA_run (w : World) : (zeroValue 355).run Tryz.prog w = .ok zeroA w := by rfl
set_option maxRecDepth 512
theorem acct_size : (Tryz.prog.info? 355).map (·.size) = some 4 := by kernel_rfl
theorem ret_acct {fn : Func} {p u : Tmp} (h : fn.results = #[.cell p 355, .tmp u]) {a : Act} {w : World} {R : Ending → World → Prop} (g : Nat) (cs : Array Value) (hp : a.tmps.getD p undef = .pointer (some ⟨g, 0, none⟩))
  (hg : Blk w g 355 cs) (hs : cs.size = 4) (hd : a.defers = []) (hR : R (.returned (.tuple #[.agg cs, a.tmps.getD u undef])) w) : bodyPost Tryz.prog fn R .ret a w :=
 bodyPost_ret (results_cell2 h a.tmps w g cs hp (run_loadVar_row w g _ _ cs _ _ hg Tryz.underlying355 rfl (by rw [hs]; exact acct_size))) hd hR
set_option maxRecDepth 100000
theorem chGet_ok (w : World) (p b : Nat) (C : List Ac) (s : ByteArray) (hc : ChAt w p b C) (hs : s.size ≤ maxLen) : Calls Tryz.prog 285 #[.pointer (some ⟨p, 0, none⟩), .string s] w (ChGetPost (getV C s.data.toList) w) := by
 have hp := hc.1.lt
 have hcell : w.cell? ⟨p, 0, none⟩ = some (.map (some b)) := hc.1.cell_ rfl
 have hf := find_ents C s.data.toList
 unfold getV
 cases hg : getC C s.data.toList with
 | none =>
  rw [hg] at hf
  replace hc := zH hc
  replace hs := zH hs
  replace hf := zH hf
  replace hg := zH hg
  go_enter Tryz.func285, Tryz.ntmps285
  go_wp2_with (refine map_look_ok _ rfl (.tmp 15) (.tmp 16) _ rfl 9 355 Tryz.underlying267 Tryz.underlying9 (zeroA_run _) b _ rfl (hc.out.2.1.alloc _) s hs.out rfl ?_; rw [hf.out]; simp only [Option.map_none, Option.getD_none, Option.isSome_none, zeroA])
  exact ret_acct rfl w.heap.size _ rfl ((Blk.new _ _ _).alloc _) rfl rfl ⟨rfl, ((Mod.refl _ _).alloc _).alloc _⟩
 | some a =>
  rw [hg] at hf
  replace hc := zH hc
  replace hs := zH hs
  replace hf := zH hf
  replace hg := zH hg
  go_enter Tryz.func285, Tryz.ntmps285
  go_wp2_with (refine map_look_ok _ rfl (.tmp 15) (.tmp 16) _ rfl 9 355 Tryz.underlying267 Tryz.underlying9 (zeroA_run _) b _ rfl (hc.out.2.1.alloc _) s hs.out rfl ?_; rw [hf.out]; simp only [Option.map_some, Option.getD_some, Option.isSome_some, acV])
  exact ret_acct rfl w.heap.size _ rfl ((Blk.new _ _ _).alloc _) rfl rfl ⟨rfl, ((Mod.refl _ _).alloc _).alloc _⟩
structure RnB where (q kn dn tl bk ch cm hd hm : Nat)
structure BkM (w : World) (b : RnB) (C : List Ac) (closed : Int) : Prop where
 bk : Blk w b.bk 229 #[.pointer (some ⟨b.ch, 0, none⟩), .pointer (some ⟨b.hd, 0, none⟩), .int .i64 closed]
 ch : ChAt w b.ch b.cm C
 hd : Blk w b.hd 272 #[.map (some b.hm)]
 hm : w.heap[b.hm]? = some (.map #[] 0)
structure RnM (w : World) (b : RnB) (K D T : List InstV) (A : Option Addr) (n c : Nat) (C : List Ac) (closed : Int) : Prop where
 q : Blk w b.q 147 #[.map (some b.kn), .map (some b.dn), .map (some b.tl), .slice A n c, .pointer (some ⟨b.bk, 0, none⟩)]
 kn : MapK w b.kn K
 dn : MapK w b.dn D
 tl : MapD w b.tl T
 book : BkM w b C closed
theorem holdNew_ok (w : World) : Calls Tryz.prog 153 #[] w fun e w' => e = .returned (.pointer (some ⟨w.heap.size + 1, 0, none⟩)) ∧ w' = (w.alloc (.map #[] 0)).alloc (.cells #[.map (some w.heap.size)] 272) := by
 go_enter Tryz.func153, Tryz.ntmps153
 have hmk := fun W => run_makeMap (P := Tryz.prog) 270 W
 go_wp2_with fail
 go_ret
 exact ⟨rfl, rfl⟩
theorem chartNew_ok (w : World) : Calls Tryz.prog 152 #[] w fun e w' => e = .returned (.pointer (some ⟨w.heap.size + 1, 0, none⟩)) ∧ w' = (w.alloc (.map #[] 0)).alloc (.cells #[.map (some w.heap.size)] 269) := by
 go_enter Tryz.func152, Tryz.ntmps152
 have hmk := fun W => run_makeMap (P := Tryz.prog) 267 W
 go_wp2_with fail
 go_ret
 exact ⟨rfl, rfl⟩
def bookW (w : World) : World := ((((w.alloc (.map #[] 0)).alloc (.cells #[.map (some w.heap.size)] 269)).alloc (.map #[] 0)).alloc (.cells #[.map (some (w.heap.size + 2))] 272)).alloc (.cells #[.pointer (some ⟨w.heap.size + 1, 0, none⟩), .pointer (some ⟨w.heap.size + 3, 0, none⟩), .int .i64 0] 229)
theorem bookNew_ok (w : World) : Calls Tryz.prog 84 #[] w fun e w' => e = .returned (.pointer (some ⟨w.heap.size + 4, 0, none⟩)) ∧ w' = bookW w := by
 unfold bookW
 go_enter Tryz.func84, Tryz.ntmps84
 go_wp2_with fail
 (with_reducible refine (chartNew_ok _).mono ?_)
 rintro e w1 ⟨rfl, rfl⟩
 dsimp only
 go_wp2_with fail
 (with_reducible refine (holdNew_ok _).mono ?_)
 rintro e w2 ⟨rfl, rfl⟩
 dsimp only
 go_wp2_with fail
 go_ret
 exact ⟨rfl, rfl⟩
def rnB0 (s : Nat) : RnB := ⟨s + 8, s, s + 1, s + 2, s + 7, s + 4, s + 3, s + 6, s + 5⟩
def RnNew (w : World) (e : Ending) (w' : World) : Prop :=
 e = .returned (.pointer (some ⟨w.heap.size + 8, 0, none⟩)) ∧ RnM w' (rnB0 w.heap.size) [] [] [] none 0 0 [] 0 ∧ w'.heap.size = w.heap.size + 9 ∧ Mod none_ w w'
theorem alloc_old {w : World} {o : Obj} {i : Nat} {x : Obj} (h : w.heap[i]? = some x) : (w.alloc o).heap[i]? = some x := by
 rw [((Mod.refl none_ w).alloc o).block i (Array.getElem?_eq_some_iff.1 h).1 (fun h => h)]; exact h
theorem alloc_new {w : World} {o : Obj} {i : Nat} (h : i = w.heap.size) : (w.alloc o).heap[i]? = some o := by subst h; exact heap_alloc_new w o
theorem MapK.made' (w : World) {b : Nat} (h : b = w.heap.size) : MapK (w.alloc (.map #[] 0)) b [] := by subst h; exact MapK.made w
theorem MapD.made' (w : World) {b : Nat} (h : b = w.heap.size) : MapD (w.alloc (.map #[] 0)) b [] := by subst h; exact MapD.made w
theorem MapAt.made' (w : World) (k : TypeId) {b : Nat} (h : b = w.heap.size) : MapAt (w.alloc (.map #[] 0)) k b [] := by subst h; exact MapAt.made w _
theorem runnerNew_ok (w : World) : Calls Tryz.prog 52 #[] w (RnNew w) := by
 go_enter Tryz.func52, Tryz.ntmps52
 have hmk := fun W => run_makeMap (P := Tryz.prog) 142 W
 have hmk2 := fun W => run_makeMap (P := Tryz.prog) 143 W
 have hmk3 := fun W => run_makeMap (P := Tryz.prog) 144 W
 go_wp2_with fail
 (with_reducible refine (bookNew_ok _).mono ?_)
 rintro e w1 ⟨rfl, rfl⟩
 dsimp only
 unfold bookW
 go_wp2_with fail
 go_ret
 refine ⟨rfl, ⟨?_, ?_, ?_, ?_, ⟨?_, ⟨?_, ?_, ?_⟩, ?_, ?_⟩⟩, ?_, ?_⟩
 ·show (World.heap _)[w.heap.size + 8]? = _
  exact alloc_new (by simp)
 ·show MapK _ w.heap.size []
  refine MapK.alloc ?_ _
  refine MapK.alloc ?_ _
  refine MapK.alloc ?_ _
  refine MapK.alloc ?_ _
  refine MapK.alloc ?_ _
  refine MapK.alloc ?_ _
  refine MapK.alloc ?_ _
  refine MapK.alloc ?_ _
  exact MapK.made w
 ·show MapK _ (w.heap.size + 1) []
  refine MapK.alloc ?_ _
  refine MapK.alloc ?_ _
  refine MapK.alloc ?_ _
  refine MapK.alloc ?_ _
  refine MapK.alloc ?_ _
  refine MapK.alloc ?_ _
  refine MapK.alloc ?_ _
  exact MapK.made' _ (by simp)
 ·show MapD _ (w.heap.size + 2) []
  refine MapD.alloc ?_ _
  refine MapD.alloc ?_ _
  refine MapD.alloc ?_ _
  refine MapD.alloc ?_ _
  refine MapD.alloc ?_ _
  refine MapD.alloc ?_ _
  exact MapD.made' _ (by simp)
 ·show (World.heap _)[w.heap.size + 7]? = _
  refine alloc_old ?_
  exact alloc_new (by simp)
 ·show (World.heap _)[w.heap.size + 4]? = _
  refine alloc_old ?_
  refine alloc_old ?_
  refine alloc_old ?_
  refine alloc_old ?_
  exact alloc_new (by simp)
 ·show MapAt _ _ (w.heap.size + 3) []
  refine MapAt.alloc ?_ _
  refine MapAt.alloc ?_ _
  refine MapAt.alloc ?_ _
  refine MapAt.alloc ?_ _
  refine MapAt.alloc ?_ _
  exact MapAt.made' _ _ (by simp)
 ·show w.heap.size + 4 ≠ w.heap.size + 3
  omega
 ·show (World.heap _)[w.heap.size + 6]? = _
  refine alloc_old ?_
  refine alloc_old ?_
  exact alloc_new (by simp)
 ·show (World.heap _)[w.heap.size + 5]? = _
  refine alloc_old ?_
  refine alloc_old ?_
  refine alloc_old ?_
  exact alloc_new (by simp)
 ·simp
 ·exact (((((((((Mod.refl none_ w).alloc _).alloc _).alloc _).alloc _).alloc _).alloc _).alloc _).alloc _).alloc _
theorem run_append_zeros_nil {P : Program} (w : World) (t u ty e : TypeId) (k : IntKind) (i : TypeInfo) (z : Value) (ht : P.underlying t = some (.slice e)) (hu : P.underlying u = some (.int k)) (hi : P.info? e = some i) (hz : i.zero = some z)
  (n : Nat) (h0 : 0 < n) (h48 : n * i.bytes ≤ 281474976710656) (h63 : (n : Int) ≤ 9223372036854775807) (hs : 0 < i.size) :
  (Builtin.append_ #[t, u] ty #[.slice none 0 0, .int k (n : Int)]).run P w =
   .ok (.slice (some ⟨w.heap.size, 0, none⟩) n (grownCap w n 0 e)) (w.drew.alloc (.cells (Builtin.zeroCells z.cells n ++ Builtin.zeroCells z.cells (grownCap w n 0 e - n)) e)) := by
 have hn : n ≠ 0 := by omega
 have hw : IntKind.i64.wrap (n : Int) = n := IntWalk.i64_in _ (by omega)
 have h63' : ¬ (9223372036854775807 < (n : Int)) := by omega
 have h48' : ¬ (281474976710656 < Builtin.nextslicecap n 0 * i.bytes) := by rw [nextslicecap_zero h0]; omega
 have h48i : ¬ ((281474976710656 : Int) < (n : Int) * (i.bytes : Int)) := by
  have : ((n * i.bytes : Nat) : Int) ≤ 281474976710656 := by omega
  rw [Int.natCast_mul] at this
  omega
 have hneg : ¬ ((n : Int) < 0) := by omega
 have hns : ¬ n * i.size = 0 := Nat.ne_of_gt (Nat.mul_pos h0 hs)
 simp [Builtin.append_, run_underlying ht, run_underlying hu, sizeOf, typeInfo, zeroValue, hi, hz, Builtin.lenOf, hn, hw, asInt, asIntOf, hneg, h48i, h63', h48', hns, Question.forced, run_firstCells_none, newRow, grownCap]
theorem wpList_append_zeros_nil {P : Program} {w : World} {ops : Array Oper} {rest : List Oper} {o : Oper} {a : Act} {Q : Exit → Act → World → Prop} (hgd : o.guard = none) (s x : Operand) (t u : TypeId)
  (ho : o.op = .call { callee := .builtin .append, args := #[s, x], argTypes := #[t, u] }) (e : TypeId) (k : IntKind) (i : TypeInfo) (z : Value) (ht : P.underlying t = some (.slice e)) (hu : P.underlying u = some (.int k)) (hi : P.info? e = some i) (hz : i.zero = some z)
  (n : Nat) (h0 : 0 < n) (h48 : n * i.bytes ≤ 281474976710656) (h63 : (n : Int) ≤ 9223372036854775807) (hsz : 0 < i.size) (hs : a.eval s = .slice none 0 0) (hx : a.eval x = .int k (n : Int))
  (h : wpList P ops Q rest (a.put o.dst (.slice (some ⟨w.heap.size, 0, none⟩) n (grownCap w n 0 e))) (w.drew.alloc (.cells (Builtin.zeroCells z.cells n ++ Builtin.zeroCells z.cells (grownCap w n 0 e - n)) e))) :
  wpList P ops Q (o :: rest) a w :=
 wpList_plain hgd fun _ hK => by
  unfold Oper.wp execOp
  simp only [ho, resolve, invoke, builtin, Sem.run_bind, Sem.run_pure, Result.andThen_ok, List.map_toArray, List.map_cons, List.map_nil, hs, hx, run_append_zeros_nil w t u o.type e k i z ht hu hi hz n h0 h48 h63 hsz]
  exact hK _ _ h
theorem grow_ok (w : World) (n : Nat) (hn : n ≤ 140737488355328) : Calls Tryz.prog 221 #[.slice none 0 0, .int .i64 (n : Int)] w fun e w' =>
  ∃ A' c', e = .returned (.slice A' 0 c') ∧ OwB w' 5 A' 0 c' [] ∧ Fresh w A' ∧ Mod none_ w w' := by
 obtain ⟨i0, hi, hz0, hz1, hz2⟩ := info_parts u8info
 rcases Nat.eq_zero_or_pos n with h0 | h0
 ·subst h0
  go_enter Tryz.func221, Tryz.ntmps221
  go_wp2
  go_ret
  exact ⟨none, 0, rfl, Ow.nil _ _ _, (fun _ h => by cases h), Mod.refl _ _⟩
 ·have hg1 := grownCap_le_maxLen w n 0 5 (by simp only [maxLen]; omega)
  have hg0 := grownCap_ge w n 0 5
  have hcl : ∀ c, c = grownCap w n 0 5 → c ≤ 9223372036854775807 := fun c hc => by rw [hc]; simpa [maxLen] using hg1
  go_enter Tryz.func221, Tryz.ntmps221
  go_wp2_with (at_builtin; refine wpList_append_zeros_nil rfl (.tmp 20) (.tmp 21) 126 3 rfl 5 .i64 i0 _ Tryz.underlying126 Tryz.underlying3 hi hz0 n h0 (by rw [hz2]; omega) (by omega) (by omega) rfl rfl ?_)
  go_ret
  refine ⟨some ⟨w.heap.size, 0, none⟩, grownCap w n 0 5, rfl, ⟨rfl, Nat.zero_le _, hg1, .inr ⟨w.heap.size, _, rfl, heap_alloc_new w.drew _, ?_, by simp [bvs]⟩⟩, ?_, ((Mod.refl none_ w).drew).alloc _⟩
  ·simp only [Array.size_append, size_zeroCells, List.size_toArray, List.length_cons, List.length_nil]
   omega
  ·intro a ha; cases ha; exact Nat.le_refl _
def pre2 (n1 n2 j : Nat) : Nat := if j = 0 then 0 else if j = 1 then n1 else n1 + n2
def cat2 (l1 l2 : List UInt8) (j : Nat) : List UInt8 := if j = 0 then [] else if j = 1 then l1 else l1 ++ l2
def CatRel (w : World) (n1 n2 : Nat) (l1 l2 : List UInt8) (j : Nat) (v : Value) (wr : World) : Prop :=
 ∃ A' c', v = .slice A' (pre2 n1 n2 j) c' ∧ OwB wr 5 A' (pre2 n1 n2 j) c' (cat2 l1 l2 j) ∧ Fresh w A' ∧ Mod none_ w wr
theorem CatRel.next {w wr w1 : World} {n1 n2 j k : Nat} {l1 l2 b : List UInt8} {A A' : Option Addr} {c' : Nat} (hF : Fresh w A) (hm : Mod none_ w wr)
  (hown : Ow w1 5 1 A' (pre2 n1 n2 j + k) c' (bvs (cat2 l1 l2 j) ++ bvs b)) (hmod : Mod (fp A) wr w1) (hA : A' = A ∨ A' = some ⟨wr.heap.size, 0, none⟩)
  (e1 : pre2 n1 n2 (j + 1) = pre2 n1 n2 j + k) (e2 : cat2 l1 l2 (j + 1) = cat2 l1 l2 j ++ b) : CatRel w n1 n2 l1 l2 (j + 1) (.slice A' (pre2 n1 n2 j + k) c') w1 := by
 refine ⟨A', c', by rw [e1], ?_, ?_, hm.then hmod fun i hi hf => ?_⟩
 ·rw [e1, e2]
  show Ow _ _ _ _ _ _ (bvs _)
  rw [bvs_append]; exact hown
 ·rintro a ha
  rcases hA with rfl | rfl
  ·exact hF a ha
  ·cases ha; exact hm.size
 ·obtain ⟨a, ha, rfl⟩ := hf
  have := hF a ha
  omega
theorem concat2_ok (w : World) (g : Nat) (B1 B2 : Option Addr) (n1 n2 d1 d2 : Nat) (l1 l2 : List UInt8) (hb : Rd w 1 (some ⟨g, 0, none⟩) 2 [.slice B1 n1 d1, .slice B2 n2 d2]) (h1 : RdB w B1 n1 l1) (h2 : RdB w B2 n2 l2) (hn : n1 + n2 ≤ 140737488355328) :
  Calls Tryz.prog 183 #[.slice (some ⟨g, 0, none⟩) 2 2] w fun e w' =>
  ∃ A' c', e = .returned (.slice A' (n1 + n2) c') ∧ OwB w' 5 A' (n1 + n2) c' (l1 ++ l2) ∧ Fresh w A' ∧ Mod none_ w w' := by
 obtain ⟨i0, hi, hz0, hz1, hz2⟩ := info_parts u8info
 obtain ⟨b, o, hbo, hc⟩ := hb.form (by omega) (by omega)
 cases hbo
 have c0 : w.cell? ⟨g, 0, none⟩ = some (.slice B1 n1 d1) := hc 0 _ rfl
 have c1 : w.cell? ⟨g, 1, none⟩ = some (.slice B2 n2 d2) := hc 1 _ rfl
 have H1 := zH h1
 have H2 := zH h2
 clear hb hc h1 h2
 go_enter Tryz.func183, Tryz.ntmps183
 go_wp2_with fail
 go_loop [3, 11] (fun s i => ∃ j : Nat, i = .int .i64 j ∧ s = .int .i64 (pre2 n1 n2 j : Nat) ∧ j ≤ 2) (fun _ i => 2 - (intOf i).toNat)
 case atStart => exact ⟨0, rfl, rfl, by omega⟩
 case round =>
  obtain ⟨j, rfl, rfl, hj⟩ := hrel
  by_cases j0 : j = 0
  ·subst j0
   have e1 : pre2 n1 n2 0 = 0 := rfl
   go_wp2
   go_round
   case rel => exact ⟨1, rfl, by simp [pre2], by omega⟩
   case measure => simp [intOf]
  ·by_cases j1 : j = 1
   ·subst j1
    have e1 : pre2 n1 n2 1 = n1 := rfl
    go_wp2
    go_round
    case rel => exact ⟨2, rfl, by simp [pre2], by omega⟩
    case measure => simp [intOf]
   ·obtain rfl : j = 2 := by omega
    have e1 : pre2 n1 n2 2 = n1 + n2 := rfl
    clear j0 j1 hj
    go_wp2_with fail
    have gr := grow_ok w (n1 + n2) hn
    rw [Int.natCast_add] at gr
    refine gr.mono ?_
    rintro e w1 ⟨A0, c0', rfl, ho0, hf0, hm0⟩
    have hr0 : CatRel w n1 n2 l1 l2 0 (.slice A0 0 c0') w1 := ⟨A0, c0', rfl, ho0, hf0, hm0⟩
    replace hr0 := zH hr0
    clear ho0 hf0 hm0 e1
    go_wp2_with fail
    go_loopw [6, 27] (fun v i wr => ∃ j : Nat, i = .int .i64 j ∧ CatRel w n1 n2 l1 l2 j v wr ∧ j ≤ 2) (fun _ i _ => 2 - (intOf i).toNat)
    case atStart => exact ⟨0, rfl, hr0.out, by omega⟩
    case round =>
     obtain ⟨j, rfl, ⟨A', c', rfl, hown, hF, hm⟩, hj⟩ := hrel
     have c0 := hm.cell_some c0 (fun hf => hf)
     have c1 := hm.cell_some c1 (fun hf => hf)
     replace hown := zH hown
     replace hF := zH hF
     replace hm := zH hm
     by_cases j0 : j = 0
     ·subst j0
      go_wp2_with (at_builtin; refine wpList_append_ow rfl (.tmp 31) (.tmp 32) 126 rfl 5 i0 _ 1 1 Tryz.underlying126 hi hz0 hz1 hz2 rfl (by omega) A' _ c' (bvs (cat2 l1 l2 0)) rfl hown.out B1 n1 d1 (bvs l1) rfl (Rd.mod0 H1.out hm.out) (bvs_one l1) (by rw [show pre2 n1 n2 0 = 0 from rfl]; omega) (by rw [show pre2 n1 n2 0 = 0 from rfl]; omega) ?_; intro A1 c1' w1 hown1 hmod1 hA1)
      have hnext := CatRel.next (l2 := l2) (n2 := n2) hF.out hm.out hown1 hmod1 hA1 (by simp [pre2]) (by simp [cat2])
      replace hnext := zH hnext
      clear hown1 hmod1 hA1
      go_wp2
      go_roundw
      case rel => exact ⟨1, rfl, hnext.out, by omega⟩
      case measure => simp [intOf]
     ·by_cases j1 : j = 1
      ·subst j1
       go_wp2_with (at_builtin; refine wpList_append_ow rfl (.tmp 31) (.tmp 32) 126 rfl 5 i0 _ 1 1 Tryz.underlying126 hi hz0 hz1 hz2 rfl (by omega) A' _ c' (bvs (cat2 l1 l2 1)) rfl hown.out B2 n2 d2 (bvs l2) rfl (Rd.mod0 H2.out hm.out) (bvs_one l2) (by rw [show pre2 n1 n2 1 = n1 from rfl]; omega) (by rw [show pre2 n1 n2 1 = n1 from rfl]; omega) ?_; intro A1 c1' w1 hown1 hmod1 hA1)
       have hnext := CatRel.next hF.out hm.out hown1 hmod1 hA1 (by simp [pre2]) (by simp [cat2])
       replace hnext := zH hnext
       clear hown1 hmod1 hA1
       go_wp2
       go_roundw
       case rel => exact ⟨2, rfl, hnext.out, by omega⟩
       case measure => simp [intOf]
      ·obtain rfl : j = 2 := by omega
       go_wp2
       go_ret
       exact ⟨A', c', rfl, hown.out, hF.out, hm.out⟩
theorem make_run {P : Program} (w : World) (t e : TypeId) (z : Value) (bytes n : Nat) (ht : P.underlying t = some (.slice e)) (hinfo : (P.info? e).map (fun i => (i.zero, i.size, i.bytes)) = some (some z, 1, bytes)) (hz1 : z.cells = #[z])
  (hbytes : bytes * n ≤ 281474976710656) (h63 : n ≤ 9223372036854775807) :
  (Instr.makeSlice t (.int .i64 (n : Int)) (.int .i64 (n : Int))).run P w = .ok (.slice (some ⟨w.heap.size, 0, none⟩) n n) (w.alloc (.cells (madeCells #[z] n) e)) :=
 run_make_row' t e z bytes ht hinfo hz1 .i64 .i64 n hbytes h63 w
theorem txt_size (l : List UInt8) : (txt l).size = l.length := by simp [txt, ByteArray.size]
theorem bytes_of_run (w : World) (l : List UInt8) : ∃ A c w', (convert 9 126 (.string (txt l))).run Tryz.prog w = .ok (.slice A l.length c) w' ∧ RdB w' A l.length l ∧ Fresh w A ∧ l.length ≤ c ∧ Mod none_ w w' ∧ (∀ k, fp A k → k < w'.heap.size) := by
 have h := Lib.run_convert_string_bytes (P := Tryz.prog) w 9 126 5 (txt l) Tryz.underlying9 Tryz.underlying126 Tryz.underlying5
 rw [txt_size] at h
 refine ⟨_, _, _, h, ⟨by simp [bvs_length], fun hn => ⟨_, rfl, fun j u hu => ?_⟩⟩, ?_, ?_, ⟨rfl, ?_, rfl, ?_, ?_⟩, ?_⟩
 ·have hj : j < l.length := by
   have := (List.getElem?_eq_some_iff.1 hu).1
   simpa [bvs_length] using this
  rw [bvs_get hj] at hu
  have := Lib.bytesWorld_cell w 5 (txt l) j (by rw [txt_size]; exact hj)
  rw [add_lit, this, ← hu]
  have e : (txt l).data.toList = l := rfl
  rw [e]
  simp [List.getD, hj]
 ·intro a ha; cases ha; exact Nat.le_refl _
 ·exact grownCap_ge _ _ _ _
 ·simp [Lib.bytesWorld, World.freeze, World.alloc, World.drew, -World.alloc_eq, -World.drew_eq]
 ·rw [Lib.bytesWorld_size]; omega
 ·intro k hk _; exact Lib.bytesWorld_at_old w _ _ k hk
 ·rintro k ⟨a, ha, rfl⟩; cases ha; rw [Lib.bytesWorld_size]; simp
theorem conv_b {w : World} {ops : Array Oper} {rest : List Oper} {o : Oper} {a : Act} {Q : Exit → Act → World → Prop} (hgd : o.guard = none) (x : Operand) (ho : o.op = .convert 9 126 x)
  {l : List UInt8} (hx : a.eval x = .string (txt l))
  (h : ∀ A c w', RdB w' A l.length l → Fresh w A → l.length ≤ c → Mod none_ w w' → (∀ k, fp A k → k < w'.heap.size) → wpList Tryz.prog ops Q rest (a.put o.dst (.slice A l.length c)) w') : wpList Tryz.prog ops Q (o :: rest) a w := by
 refine wpList_plain hgd fun K hK => ?_
 obtain ⟨A, c, w', hrun, h1, h2, h3, h4, h5⟩ := bytes_of_run w l
 unfold Oper.wp
 simp [execOp, ho, hx, hrun, Result.andThen]
 exact hK _ _ (h A c w' h1 h2 h3 h4 h5)
def BytesPost (w : World) (l : List UInt8) (e : Ending) (w' : World) : Prop := ∃ A c, e = .returned (.slice A l.length c) ∧ OwB w' 5 A l.length c l ∧ Fresh w A ∧ Mod none_ w w'
def txtB (s : List UInt8) : List UInt8 := vb (zig (s.length : Int)) ++ s
theorem text_ok (w : World) (s : List UInt8) (hs : s.length ≤ 1000000000000) : Calls Tryz.prog 184 #[.string (txt s)] w (BytesPost w (txtB s)) := by
 have hsz : (txt s).size = s.length := by simp [txt, ByteArray.size]
 go_enter Tryz.func184, Tryz.ntmps184
 go_wp2_with fail
 refine (num_ok _ (s.length : Int) (by omega) (by omega)).mono ?_
 rintro e w1 ⟨A, k, c, rfl, ho, hf, hm, hk⟩
 dsimp only
 replace ho := zH ho
 replace hf := zH hf
 replace hm := zH hm
 replace hsz := zH hsz
 go_wp2_with (show wpList _ _ _ (⟨some 7, _, _, _, _, _⟩ :: _) _ _; go_loud (refine conv_b rfl (.tmp 6) rfl rfl ?_; intro A2 c2 w2 hr2 hf2 hc2 hm2 hl2; replace hr2 := zH hr2; replace hf2 := zH hf2; replace hm2 := zH hm2; replace hl2 := zH hl2))
 refine (concat2_ok _ w2.heap.size A A2 k s.length c c2 _ _ (rdn w2 _ 1 2 _ #[.slice A k c, .slice A2 s.length c2] (0, 0) rfl rfl) ((ho.out.rd.mod0 hm2.out).alloc _) (Rd.alloc hr2.out _) (by omega)).mono ?_
 rintro e w3 ⟨A3, c3, rfl, ho3, hf3, hm3⟩
 dsimp only
 have hlen := ho3.len
 rw [List.length_append] at hlen
 have hmm := (((hm.out.trans hm2.out).alloc (.cells #[.slice A k c, .slice A2 s.length c2] 126)))
 replace ho3 := zH ho3
 replace hf3 := zH hf3
 replace hm3 := zH hm3
 replace hlen := zH hlen
 replace hmm := zH hmm
 go_wp2_with fail
 go_ret
 have el : (txtB s).length = k + s.length := by have := hlen.out; rw [txtB, List.length_append]; omega
 refine ⟨A3, c3, by rw [el]; rfl, by rw [el]; exact ho3.out, hf3.out.later hmm.out.size, hmm.out.trans hm3.out⟩
theorem rdi_at {w : World} {A : Option Addr} {n : Nat} {xs : List Int} (h : RdI w A n xs) {j : Nat} (hj : j < n) : ∃ b o x, A = some ⟨b, o, none⟩ ∧ xs[j]? = some x ∧ w.cell? ⟨b, o + j, none⟩ = some (.int .i64 x) := by
 obtain ⟨b, o, e, hc⟩ := Rd.form h (by omega) (by omega)
 have hl : j < xs.length := by rw [h.len]; exact hj
 exact ⟨b, o, xs[j], e, List.getElem?_eq_getElem hl, hc j _ (ivs_get hl)⟩
def rn (l : List UInt8) (e : Nat) : Int × Nat × List UInt8 :=
 if e ≠ 0 then (0, e, l) else if (rdNum l).1 = 0 then (unzig (rdNum l).2.1, 0, l.drop (rdNum l).2.2) else (0, (rdNum l).1, [])
def RPost (w : World) (g B : Nat) (r : Int × Nat × List UInt8) (en : Ending) (w' : World) : Prop :=
 en = .returned (.tuple #[.int .i64 r.1, .int .i64 (r.2.1 : Int)]) ∧ Rdr w' g B r.2.2 r.2.1 ∧ Mod (only g) w w'
def rg (lo hi : Int) (l : List UInt8) (e : Nat) : Int × Nat × List UInt8 :=
 if (rn l e).2.1 ≠ 0 then (0, (rn l e).2) else if (rn l e).1 < lo ∨ hi < (rn l e).1 then (0, 3, []) else rn l e
theorem Rdr.blk {w : World} {g B : Nat} {l : List UInt8} {e : Nat} (h : Rdr w g B l e) : ∃ a b, Blk w g 301 #[a, b] ∧ g ≠ B := by
 obtain ⟨A, n, c, a1, _, _, _, _, a6⟩ := h
 exact ⟨_, _, a1, a6⟩
def rt (most : Int) (l : List UInt8) (e : Nat) : List UInt8 × Nat × List UInt8 :=
 if (rg 0 most l e).2.1 ≠ 0 then ([], (rg 0 most l e).2) else if ((rg 0 most l e).2.2.length : Int) < (rg 0 most l e).1 then ([], 4, []) else
  ((rg 0 most l e).2.2.take (rg 0 most l e).1.toNat, 0, (rg 0 most l e).2.2.drop (rg 0 most l e).1.toNat)
theorem RPost.zero {w : World} {g B : Nat} {v : Int} {r : List UInt8} {en : Ending} {w' : World} (h : RPost w g B (v, 0, r) en w') : en = .returned (.tuple #[.int .i64 v, .int .i64 0]) ∧ Rdr w' g B r 0 ∧ Mod (only g) w w' := h
theorem eqL_ok (w : World) (A B : Option Addr) (n m c d : Nat) (C D : List Lg) (hA : RdL w A n C) (hB : RdL w B m D) (hn : n ≤ 140737488355328) (hm : m ≤ 140737488355328) :
  Calls Tryz.prog 126 #[.slice A n c, .slice B m d] w fun e w' => e = .returned (.bool (decide (C = D))) ∧ ∃ k, w' = w.drewN k := by
 have la := hA.len
 have lb := hB.len
 by_cases hnm : n = m
 ·subst hnm
  replace hA := zH hA
  replace hB := zH hB
  replace la := zH la
  replace lb := zH lb
  go_enter Tryz.func126, Tryz.ntmps126
  go_wp2_with fail
  go_loopg [13] n (fun k x wr => ∃ j : Nat, x = .int .i64 j ∧ j + k = n ∧ C.take j = D.take j ∧ ∃ q, wr = w.drewN q)
  case atStart => exact ⟨0, rfl, by omega, rfl, 0, rfl⟩
  case round =>
   obtain ⟨j, rfl, hj, htk, q, hq⟩ := hrel
   by_cases hlt : j < n
   ·have hjC : j < C.length := by rw [la.out]; exact hlt
    have hjD : j < D.length := by rw [lb.out]; exact hlt
    obtain ⟨b, o, x0, rfl, -, hx0, a1, a2⟩ := rdl_get (w := w.drewN q) (Rd.drewN hA.out q) hlt
    rw [List.getElem?_eq_getElem hjC] at hx0
    injection hx0 with hx0
    subst hx0
    obtain ⟨b', o', y0, rfl, -, hy0, b1, b2⟩ := rdl_get (w := w.drewN q) (Rd.drewN hB.out q) hlt
    rw [List.getElem?_eq_getElem hjD] at hy0
    injection hy0 with hy0
    subst hy0
    rw [← hq] at a1 a2 b1 b2
    have t1 : C.take (j+1) = C.take j ++ [C[j]] := by rw [List.take_succ_eq_append_getElem hjC]
    have t2 : D.take (j+1) = D.take j ++ [D[j]] := by rw [List.take_succ_eq_append_getElem hjD]
    generalize C[j] = x at *
    generalize D[j] = y at *
    have hne := fun W => neq_lg W x y
    unfold lgV at hne
    have hdiff : C.take j = D.take j → ¬ x = y → ¬ C = D := by
     intro h1 h2 h3
     subst h3
     rw [t1] at t2
     have := List.append_cancel_left t2
     simp at this
     exact h2 this
    by_cases hxy : x = y
    ·rw [decide_eq_true hxy] at hne
     replace hq := zH hq
     replace t1 := zH t1
     replace t2 := zH t2
     replace htk := zH htk
     replace hjC := zH hjC
     replace hjD := zH hjD
     replace hxy := zH hxy
     replace hdiff := zH hdiff
     go_wp2_with (go_quiet (fail))
     go_roundg (gk - 1)
     case measure => omega
     case rel => exact ⟨j + 1, by go_num, by omega, by rw [t1.out, t2.out, htk.out, hxy.out], _, by rw [hq.out, World.drewN_drewN]⟩
    ·rw [decide_eq_false hxy] at hne
     have hno : decide (C = D) = false := decide_eq_false (hdiff htk hxy)
     replace hq := zH hq
     replace t1 := zH t1
     replace t2 := zH t2
     replace htk := zH htk
     replace hjC := zH hjC
     replace hjD := zH hjD
     replace hxy := zH hxy
     replace hdiff := zH hdiff
     replace hno := zH hno
     go_wp2_with (go_quiet (fail))
     go_ret
     exact ⟨by rw [hno.out]; rfl, _, by rw [hq.out, World.drewN_drewN]⟩
   ·have hjn : j = n := by omega
    subst hjn
    have heq : decide (C = D) = true := by
     refine decide_eq_true ?_
     rw [List.take_of_length_le (by have := la.out; omega), List.take_of_length_le (by have := lb.out; omega)] at htk
     exact htk
    replace htk := zH htk
    replace hq := zH hq
    replace heq := zH heq
    go_wp2_with fail
    go_ret
    exact ⟨by rw [heq.out]; rfl, q, hq.out⟩
 ·have hno : decide (C = D) = false := decide_eq_false (fun h => hnm (by rw [← la, ← lb, h]))
  have hnm2 : ((n : Int) == (m : Int)) = false := by simp; omega
  replace hA := zH hA
  replace hB := zH hB
  replace la := zH la
  replace lb := zH lb
  replace hnm := zH hnm
  replace hno := zH hno
  go_enter Tryz.func126, Tryz.ntmps126
  go_wp2_with fail
  go_ret
  exact ⟨by rw [hno.out]; rfl, 0, rfl⟩
theorem eqP_ok (w : World) (A B : Option Addr) (n m c d : Nat) (C D : List Is) (hA : RdP w A n C) (hB : RdP w B m D) (hn : n ≤ 140737488355328) (hm : m ≤ 140737488355328) :
  Calls Tryz.prog 143 #[.slice A n c, .slice B m d] w fun e w' => e = .returned (.bool (decide (C = D))) ∧ ∃ k, w' = w.drewN k := by
 have la := hA.len
 have lb := hB.len
 by_cases hnm : n = m
 ·subst hnm
  replace hA := zH hA
  replace hB := zH hB
  replace la := zH la
  replace lb := zH lb
  go_enter Tryz.func143, Tryz.ntmps143
  go_wp2_with fail
  go_loopg [13] n (fun k x wr => ∃ j : Nat, x = .int .i64 j ∧ j + k = n ∧ C.take j = D.take j ∧ ∃ q, wr = w.drewN q)
  case atStart => exact ⟨0, rfl, by omega, rfl, 0, rfl⟩
  case round =>
   obtain ⟨j, rfl, hj, htk, q, hq⟩ := hrel
   by_cases hlt : j < n
   ·have hjC : j < C.length := by rw [la.out]; exact hlt
    have hjD : j < D.length := by rw [lb.out]; exact hlt
    obtain ⟨b, o, x0, rfl, -, hx0, a1, a2⟩ := rdp_get (w := w.drewN q) (Rd.drewN hA.out q) hlt
    rw [List.getElem?_eq_getElem hjC] at hx0
    injection hx0 with hx0
    subst hx0
    obtain ⟨b', o', y0, rfl, -, hy0, b1, b2⟩ := rdp_get (w := w.drewN q) (Rd.drewN hB.out q) hlt
    rw [List.getElem?_eq_getElem hjD] at hy0
    injection hy0 with hy0
    subst hy0
    rw [← hq] at a1 a2 b1 b2
    have t1 : C.take (j+1) = C.take j ++ [C[j]] := by rw [List.take_succ_eq_append_getElem hjC]
    have t2 : D.take (j+1) = D.take j ++ [D[j]] := by rw [List.take_succ_eq_append_getElem hjD]
    generalize C[j] = x at *
    generalize D[j] = y at *
    have hne := fun W => neq_is W x y
    unfold isV at hne
    have hdiff : C.take j = D.take j → ¬ x = y → ¬ C = D := by
     intro h1 h2 h3
     subst h3
     rw [t1] at t2
     have := List.append_cancel_left t2
     simp at this
     exact h2 this
    by_cases hxy : x = y
    ·rw [decide_eq_true hxy] at hne
     replace hq := zH hq
     replace t1 := zH t1
     replace t2 := zH t2
     replace htk := zH htk
     replace hjC := zH hjC
     replace hjD := zH hjD
     replace hxy := zH hxy
     replace hdiff := zH hdiff
     go_wp2_with (go_quiet (fail))
     go_roundg (gk - 1)
     case measure => omega
     case rel => exact ⟨j + 1, by go_num, by omega, by rw [t1.out, t2.out, htk.out, hxy.out], _, by rw [hq.out, World.drewN_drewN]⟩
    ·rw [decide_eq_false hxy] at hne
     have hno : decide (C = D) = false := decide_eq_false (hdiff htk hxy)
     replace hq := zH hq
     replace t1 := zH t1
     replace t2 := zH t2
     replace htk := zH htk
     replace hjC := zH hjC
     replace hjD := zH hjD
     replace hxy := zH hxy
     replace hdiff := zH hdiff
     replace hno := zH hno
     go_wp2_with (go_quiet (fail))
     go_ret
     exact ⟨by rw [hno.out]; rfl, _, by rw [hq.out, World.drewN_drewN]⟩
   ·have hjn : j = n := by omega
    subst hjn
    have heq : decide (C = D) = true := by
     refine decide_eq_true ?_
     rw [List.take_of_length_le (by have := la.out; omega), List.take_of_length_le (by have := lb.out; omega)] at htk
     exact htk
    replace htk := zH htk
    replace hq := zH hq
    replace heq := zH heq
    go_wp2_with fail
    go_ret
    exact ⟨by rw [heq.out]; rfl, q, hq.out⟩
 ·have hno : decide (C = D) = false := decide_eq_false (fun h => hnm (by rw [← la, ← lb, h]))
  have hnm2 : ((n : Int) == (m : Int)) = false := by simp; omega
  replace hA := zH hA
  replace hB := zH hB
  replace la := zH la
  replace lb := zH lb
  replace hnm := zH hnm
  replace hno := zH hno
  go_enter Tryz.func143, Tryz.ntmps143
  go_wp2_with fail
  go_ret
  exact ⟨by rw [hno.out]; rfl, 0, rfl⟩
theorem sameO_ok (w : World) (a b : Od) (L M : SV) (ha : OdM w a L) (hb : OdM w b M) (hL : L.n ≤ 140737488355328) (hM : M.n ≤ 140737488355328) :
  Calls Tryz.prog 63 #[.agg #[.int .i64 a.c, .int .i64 a.s, .int .i64 a.k, .string (txt a.acct), .string (txt a.peer), .int .i64 a.sum, .slice L.a L.n L.c, .int .i64 a.per, .int .i64 a.hold, .string (txt a.note)], .agg #[.int .i64 b.c, .int .i64 b.s, .int .i64 b.k, .string (txt b.acct), .string (txt b.peer), .int .i64 b.sum, .slice M.a M.n M.c, .int .i64 b.per, .int .i64 b.hold, .string (txt b.note)]] w fun e w' => e = .returned (.bool (decide (a = b))) ∧ Mod none_ w w' := by
 have kE := zH (fun W (h : Mod none_ w W) => eqL_ok W L.a M.a L.n M.n L.c M.c a.legs b.legs (ha.rd.mod0 h) (hb.rd.mod0 h) hL hM)
 have hid := fun W => eql_id W ⟨a.c, a.s⟩ ⟨b.c, b.s⟩
 unfold isV at hid
 replace ha := zH ha
 replace hb := zH hb
 obtain ⟨ac, as_, ak, aa, ap, asum, al, aper, ah, an⟩ := a
 obtain ⟨bc, bs_, bk, ba, bp, bsum, bl, bper, bh, bn⟩ := b
 dsimp only at kE hid ⊢
 go_enter Tryz.func63, Tryz.ntmps63
 go_wp2_with fail
 ·with_reducible refine (kE.out _ (((Mod.refl none_ w).alloc _).alloc _)).mono ?_
  rintro e w1 ⟨rfl, q, hq⟩
  dsimp only
  have hm : Mod none_ w w1 := by rw [hq]; exact (((Mod.refl none_ w).alloc _).alloc _).drewN _
  replace hm := zH hm
  replace hq := zH hq
  go_wp2_with fail
  go_ret
  refine ⟨?_, hm.out⟩
  simp_all
 all_goals
  go_ret
  refine ⟨by simp_all, ((Mod.refl none_ w).alloc _).alloc _⟩
theorem en_eq {a b : En} : a = b ↔ a.none = b.none ∧ a.o = b.o ∧ a.deps = b.deps := by
 cases a; cases b; simp only [En.mk.injEq]; exact ⟨fun ⟨x, y, z⟩ => ⟨y, x, z⟩, fun ⟨x, y, z⟩ => ⟨y, x, z⟩⟩
theorem sameE_ok (w : World) (a b : En) (L D M E : SV) (ha : EnM w a L D) (hb : EnM w b M E) (hL : L.n ≤ 140737488355328) (hD : D.n ≤ 140737488355328) (hM : M.n ≤ 140737488355328) (hE : E.n ≤ 140737488355328) :
  Calls Tryz.prog 133 #[.agg #[.int .i64 a.o.c, .int .i64 a.o.s, .int .i64 a.o.k, .string (txt a.o.acct), .string (txt a.o.peer), .int .i64 a.o.sum, .slice L.a L.n L.c, .int .i64 a.o.per, .int .i64 a.o.hold, .string (txt a.o.note), .bool a.none, .slice D.a D.n D.c], .agg #[.int .i64 b.o.c, .int .i64 b.o.s, .int .i64 b.o.k, .string (txt b.o.acct), .string (txt b.o.peer), .int .i64 b.o.sum, .slice M.a M.n M.c, .int .i64 b.o.per, .int .i64 b.o.hold, .string (txt b.o.note), .bool b.none, .slice E.a E.n E.c]] w fun e w' => e = .returned (.bool (decide (a = b))) ∧ Mod none_ w w' := by
 have kO := zH (fun W (h : Mod none_ w W) => sameO_ok W a.o b.o L M (ha.od.mod0 h) (hb.od.mod0 h) hL hM)
 have kE := zH (fun W (h : Mod none_ w W) => eqP_ok W D.a E.a D.n E.n D.c E.c a.deps b.deps (ha.rd.mod0 h) (hb.rd.mod0 h) hD hE)
 have hm0 : ∀ o p, Mod none_ w ((w.alloc o).alloc p) := fun o p => ((Mod.refl none_ w).alloc o).alloc p
 have he := @en_eq a b
 replace ha := zH ha
 replace hb := zH hb
 replace he := zH he
 obtain ⟨ao, na, ad⟩ := a
 obtain ⟨bo, nb, bd⟩ := b
 dsimp only at kO kE he ⊢
 by_cases h1 : na = nb
 ·have hd1 : (na == nb) = true := by simp [h1]
  by_cases h2 : ao = bo
  ·rw [decide_eq_true h2] at kO
   have hr : (decide ((⟨ao, na, ad⟩ : En) = ⟨bo, nb, bd⟩)) = decide (ad = bd) := by rw [decide_eq_decide, he.out]; exact ⟨fun h => h.2.2, fun h => ⟨h1, h2, h⟩⟩
   rw [hr]
   replace h1 := zH h1
   replace h2 := zH h2
   replace hr := zH hr
   go_enter Tryz.func133, Tryz.ntmps133
   go_wp2_with fail
   with_reducible refine (kO.out _ (hm0 _ _)).mono ?_
   rintro e w1 ⟨rfl, hm1⟩
   dsimp only
   have x1 := (((Blk.new w _ _).alloc _).mod hm1 (fun h => h)).cell_ (i := 11) rfl
   have x2 := ((Blk.new (w.alloc _) _ _).mod hm1 (fun h => h)).cell_ (i := 11) rfl
   simp only [World.size_alloc] at x2
   have hm2 := (hm0 _ _).trans hm1
   have kE' := zH (kE.out _ hm2)
   replace hm1 := zH hm1
   go_wp2_with fail
   with_reducible refine kE'.out.mono ?_
   rintro e w2 ⟨rfl, q, hq⟩
   dsimp only
   have hm3 : Mod none_ w w2 := by rw [hq]; exact hm2.drewN _
   replace hm3 := zH hm3
   replace hq := zH hq
   go_wp2_with fail
   go_ret
   exact ⟨rfl, hm3.out⟩
  ·rw [decide_eq_false h2] at kO
   have hr : (decide ((⟨ao, na, ad⟩ : En) = ⟨bo, nb, bd⟩)) = false := by rw [decide_eq_false_iff_not, he.out]; exact fun h => h2 h.2.1
   rw [hr]
   replace h1 := zH h1
   replace h2 := zH h2
   replace hr := zH hr
   go_enter Tryz.func133, Tryz.ntmps133
   go_wp2_with fail
   with_reducible refine (kO.out _ (hm0 _ _)).mono ?_
   rintro e w1 ⟨rfl, hm1⟩
   dsimp only
   have hm2 := zH ((hm0 _ _).trans hm1)
   replace hm1 := zH hm1
   go_wp2_with fail
   go_ret
   exact ⟨rfl, hm2.out⟩
 ·have hd1 : (na == nb) = false := by simp [h1]
  have hr : (decide ((⟨ao, na, ad⟩ : En) = ⟨bo, nb, bd⟩)) = false := by rw [decide_eq_false_iff_not, he.out]; exact fun h => h1 h.1
  rw [hr]
  replace h1 := zH h1
  replace hr := zH hr
  go_enter Tryz.func133, Tryz.ntmps133
  go_wp2_with fail
  go_ret
  exact ⟨rfl, hm0 _ _⟩
end Go.Proofs.YtfkfiokkjjnhiaaGreat
namespace Go.Proofs
open Go.Shelf
def Tryz.lays119_ren : Go.Shelf.Ren := ⟨fun | 119 => 215 | n => n, fun | 21 => 21 | 4 => 4 | n => n, fun | n => n⟩
theorem Tryz.lays119 : Go.Proofs.Lays.n119 Tryz.prog Tryz.lays119_ren := {
 mixed := by kernel_rfl
 f119 := Tryz.func215.trans (congrArg some (by kernel_rfl))
 t4 := Tryz.underlying4
 a4 := Tryz.isAgg4
 z4 := Tryz.sizeOf4
 v4 := Tryz.zeroValue4
 t21 := Tryz.underlying21
 a21 := Tryz.isAgg21
 z21 := Tryz.sizeOf21
 v21 := Tryz.zeroValue21 }
theorem Tryz.utf8_ValidRune (r : Int) (w : World) :
  Calls Tryz.prog 215 #[.int .i32 r] w fun e w' => e = .returned (.bool (Lib.validRune r)) ∧ w' = w := Any.utf8_ValidRune Tryz.lays119 r w
def Tryz.lays137_ren : Go.Shelf.Ren := ⟨fun | 137 => 214 | 217 => 246 | 266 => 275 | n => n, fun | 9 => 9 | 5 => 5 | 3 => 3 | n => n, fun | n => n⟩
theorem Tryz.lays137 : Go.Proofs.Lays.n137 Tryz.prog Tryz.lays137_ren := {
 mixed := by kernel_rfl
 f137 := Tryz.func214.trans (congrArg some (by kernel_rfl))
 f217 := Tryz.func246.trans (congrArg some (by kernel_rfl))
 f266 := Tryz.func275.trans (congrArg some (by kernel_rfl))
 t3 := Tryz.underlying3
 a3 := Tryz.isAgg3
 z3 := Tryz.sizeOf3
 v3 := Tryz.zeroValue3
 t5 := Tryz.underlying5
 a5 := Tryz.isAgg5
 z5 := Tryz.sizeOf5
 v5 := Tryz.zeroValue5
 t9 := Tryz.underlying9
 a9 := Tryz.isAgg9
 z9 := Tryz.sizeOf9
 v9 := Tryz.zeroValue9 }
open Go.RowKit in
theorem Tryz.strings_IndexByte (s : ByteArray) (c : Int) (w : World) :
  Calls Tryz.prog 214 #[.string s, .int .u8 c] w fun e w' => e = .returned (.int .i64 (Lib.indexByte s.data.toList c.toNat.toUInt8)) ∧ w' = w := Any.strings_IndexByte Tryz.lays137 s c w
def Tryz.lays152_ren : Go.Shelf.Ren := ⟨fun | 152 => 173 | 137 => 214 | 119 => 215 | 224 => 216 | 225 => 217 | 217 => 246 | 266 => 275 | n => n, fun | 9 => 9 | 21 => 21 | 3 => 3 | 4 => 4 | 5 => 5 | 0 => 0 | 46 => 34 | n => n, fun | n => n⟩
theorem Tryz.lays152 : Go.Proofs.Lays.n152 Tryz.prog Tryz.lays152_ren := {
 mixed := by kernel_rfl
 f119 := Tryz.func215.trans (congrArg some (by kernel_rfl))
 f137 := Tryz.func214.trans (congrArg some (by kernel_rfl))
 f152 := Tryz.func173.trans (congrArg some (by kernel_rfl))
 f217 := Tryz.func246.trans (congrArg some (by kernel_rfl))
 f224 := Tryz.func216.trans (congrArg some (by kernel_rfl))
 f225 := Tryz.func217.trans (congrArg some (by kernel_rfl))
 f266 := Tryz.func275.trans (congrArg some (by kernel_rfl))
 t0 := Tryz.underlying0
 a0 := Tryz.isAgg0
 z0 := Tryz.sizeOf0
 v0 := Tryz.zeroValue0
 t3 := Tryz.underlying3
 a3 := Tryz.isAgg3
 z3 := Tryz.sizeOf3
 v3 := Tryz.zeroValue3
 t4 := Tryz.underlying4
 a4 := Tryz.isAgg4
 z4 := Tryz.sizeOf4
 v4 := Tryz.zeroValue4
 t5 := Tryz.underlying5
 a5 := Tryz.isAgg5
 z5 := Tryz.sizeOf5
 v5 := Tryz.zeroValue5
 t9 := Tryz.underlying9
 a9 := Tryz.isAgg9
 z9 := Tryz.sizeOf9
 v9 := Tryz.zeroValue9
 t21 := Tryz.underlying21
 a21 := Tryz.isAgg21
 z21 := Tryz.sizeOf21
 v21 := Tryz.zeroValue21
 t46 := Tryz.underlying34
 a46 := Tryz.isAgg34
 z46 := Tryz.sizeOf34
 v46 := Tryz.zeroValue34 }
open Go.RowKit Go.Lib in
theorem Tryz.strings_IndexRune_ascii (s : ByteArray) (r : Int) (w : World) (h0 : 0 ≤ r) (h1 : r < 128) :
  Calls Tryz.prog 173 #[.string s, .int .i32 r] w fun e w' => e = .returned (.int .i64 (Lib.indexByte s.data.toList r.toNat.toUInt8)) ∧ w' = w := Any.strings_IndexRune_ascii Tryz.lays152 s r w h0 h1
def Tryz.lays212_ren : Go.Shelf.Ren := ⟨fun | 212 => 158 | 263 => 205 | 264 => 206 | n => n, fun | 46 => 34 | 51 => 192 | 146 => 273 | 53 => 194 | 148 => 275 | n => n, fun | n => n⟩
theorem Tryz.lays212 : Go.Proofs.Lays.n212 Tryz.prog Tryz.lays212_ren := {
 mixed := by kernel_rfl
 f212 := Tryz.func158.trans (congrArg some (by kernel_rfl))
 f263 := Tryz.func205.trans (congrArg some (by kernel_rfl))
 f264 := Tryz.func206.trans (congrArg some (by kernel_rfl))
 t46 := Tryz.underlying34
 a46 := Tryz.isAgg34
 z46 := Tryz.sizeOf34
 v46 := Tryz.zeroValue34
 t51 := Tryz.underlying192
 a51 := Tryz.isAgg192
 z51 := Tryz.sizeOf192
 v51 := Tryz.zeroValue192
 t53 := Tryz.underlying194
 a53 := Tryz.isAgg194
 z53 := Tryz.sizeOf194
 v53 := Tryz.zeroValue194
 t146 := Tryz.underlying273
 a146 := Tryz.isAgg273
 z146 := Tryz.sizeOf273
 v146 := Tryz.zeroValue273
 t148 := Tryz.underlying275
 a148 := Tryz.isAgg275
 z148 := Tryz.sizeOf275
 v148 := Tryz.zeroValue275 }
open Go.RowKit Go.Lib in
theorem Tryz.bits_Mul (x y : Nat) (hx : x < 18446744073709551616) (hy : y < 18446744073709551616) (w : World) :
  Calls Tryz.prog 158 #[.int .u64 x, .int .u64 y] w fun e w' => e = .returned (.tuple #[.int .u64 ((x * y / 18446744073709551616 : Nat) : Int), .int .u64 ((x * y % 18446744073709551616 : Nat) : Int)]) ∧ w' = w := Any.bits_Mul Tryz.lays212 x y hx hy w
end Go.Proofs
