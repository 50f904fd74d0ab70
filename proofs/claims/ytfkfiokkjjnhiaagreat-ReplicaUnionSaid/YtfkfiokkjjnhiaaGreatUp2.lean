import Derived.Test.YtfkfiokkjjnhiaaGreatUp1
import Derived.Test.YtfkfiokkjjnhiaaGreatRows
import Derived.Deep.RegionLaw
import Derived.ChangeAlike
import Derived.Deep.QuietTactic
import Derived.Deep.MidRow
import Derived.Laws.ResultCell
import Derived.Deep.LoopGhost
import Derived.Lib.SliceRun
import Derived.Maps.OwnSet
import Derived.StringKeys
import Derived.Maps.RangeWalk
set_option linter.unusedVariables false
set_option linter.unusedSimpArgs false
set_option maxHeartbeats 16000000
namespace Go.Proofs.YtfkfiokkjjnhiaaGreat
open Go.RowKit
def zig (n : Int) : Nat := if 0 ≤ n then (2 * n).toNat else (-2 * n - 1).toNat
def unzig (m : Nat) : Int := if m % 2 = 0 then (m / 2 : Nat) else -((m / 2 : Nat) : Int) - 1
theorem zig_lt {n : Int} (h1 : -9223372036854775808 ≤ n) (h2 : n ≤ 9223372036854775807) : zig n < 18446744073709551616 := by
 unfold zig; split <;> omega
theorem bx64 (a b : Nat) (ha : a < 18446744073709551616) (hb : b < 18446744073709551616) : bits .xor .u64 (a : Int) (b : Int) = ((a ^^^ b : Nat) : Int) := by
 have hx : a ^^^ b < 2 ^ 64 := Nat.xor_lt_two_pow (by omega) (by omega)
 show IntKind.u64.wrap ((BitVec.ofInt 64 (a : Int) ^^^ BitVec.ofInt 64 (b : Int)).toNat : Int) = _
 rw [BitVec.toNat_xor, ofInt_nat 64 a (by omega), ofInt_nat 64 b (by omega), IntKind.wrap_u64]
 omega
theorem not64 (q : Nat) (hq : q < 18446744073709551616) : q ^^^ 18446744073709551615 = 18446744073709551615 - q := by
 have h := BitVec.toNat_not (x := BitVec.ofNat 64 q)
 rw [BitVec.not_def, BitVec.toNat_xor, BitVec.toNat_ofNat, Nat.mod_eq_of_lt (by omega : q < 2 ^ 64)] at h
 have e : (BitVec.allOnes 64).toNat = 18446744073709551615 := by decide
 rw [e, Nat.xor_comm] at h
 exact h
theorem fold_bits (n : Int) (h1 : -9223372036854775808 ≤ n) (h2 : n ≤ 9223372036854775807) : bits .xor .u64 (IntKind.u64.wrap (IntKind.u64.wrap n * 2)) (IntKind.u64.wrap (n / 9223372036854775808)) = (zig n : Int) := by
 by_cases h : 0 ≤ n
 ·have e1 : IntKind.u64.wrap (IntKind.u64.wrap n * 2) = (((2 * n).toNat : Nat) : Int) := by simp only [IntKind.wrap_u64]; omega
  have e2 : IntKind.u64.wrap (n / 9223372036854775808) = ((0 : Nat) : Int) := by simp only [IntKind.wrap_u64]; omega
  rw [e1, e2, bx64 _ _ (by omega) (by omega), Nat.xor_zero, zig, if_pos h]
 ·have e1 : IntKind.u64.wrap (IntKind.u64.wrap n * 2) = (((2 * n + 18446744073709551616).toNat : Nat) : Int) := by simp only [IntKind.wrap_u64]; omega
  have e2 : IntKind.u64.wrap (n / 9223372036854775808) = ((18446744073709551615 : Nat) : Int) := by simp only [IntKind.wrap_u64]; omega
  rw [e1, e2, bx64 _ _ (by omega) (by omega), not64 _ (by omega), zig, if_neg h]
  omega
theorem fold_ok (w : World) (n : Int) (h1 : -9223372036854775808 ≤ n) (h2 : n ≤ 9223372036854775807) : Calls Tryz.prog 256 #[.int .i64 n] w fun e w' => e = .returned (.int .u64 (zig n : Nat)) ∧ w = w' := by
 have H := zH (fold_bits n h1 h2)
 go_enter Tryz.func256, Tryz.ntmps256
 go_wp2
 go_ret
 refine ⟨?_, rfl⟩
 rw [← H.out]
 rfl
theorem or128 : ∀ x : Nat, x < 256 → x ||| 128 = x % 128 + 128 := by decide +kernel
theorem bor8 (q : Nat) : bits .or .u8 ((q : Int) % 256) 128 = ((q % 128 + 128 : Nat) : Int) := by
 have e0 : (q : Int) % 256 = ((q % 256 : Nat) : Int) := by omega
 have e1 := or128 (q % 256) (by omega)
 rw [e0]
 show IntKind.u8.wrap ((BitVec.ofInt 8 ((q % 256 : Nat) : Int) ||| BitVec.ofInt 8 ((128 : Nat) : Int)).toNat : Int) = _
 rw [BitVec.toNat_or, ofInt_nat 8 (q % 256) (by omega), ofInt_nat 8 128 (by omega), e1, IntKind.wrap_u8]
 omega
theorem vbF_len : ∀ (f m : Nat), (vbF f m).length ≤ f := by
 intro f
 induction f with
 | zero => intro m; exact Nat.le_refl _
 | succ f ih => intro m; simp only [vbF]; split; simp; simp only [List.length_cons]; have := ih (m / 128); omega
theorem vb_len (m : Nat) : (vb m).length ≤ 10 := vbF_len 10 m
def NumOk (t q : Nat) : Prop := q < 2 ^ (64 - 7 * t)
def NumRel (w : World) (M : Nat) (q : Nat) (v : Value) (wr : World) : Prop :=
 ∃ A t c pre, v = .slice A t c ∧ OwB wr 5 A t c pre ∧ Fresh w A ∧ Mod none_ w wr ∧ pre ++ vbF (10 - t) q = vb M ∧ NumOk t q ∧ t ≤ 9
theorem num_step {t q : Nat} (ht : t ≤ 9) (hq : NumOk t q) (h : 128 ≤ q) : t ≤ 8 ∧ NumOk (t + 1) (q / 128) ∧ vbF (10 - t) q = by_ (q % 128 + 128) :: vbF (10 - (t + 1)) (q / 128) := by
 unfold NumOk at hq ⊢
 have h8 : t ≤ 8 := by
  rcases Nat.lt_or_ge t 9 with h1 | h1
  ·omega
  ·have : t = 9 := by omega
   subst this
   simp at hq; omega
 have e : 64 - 7 * t = 64 - 7 * (t + 1) + 7 := by omega
 rw [e, Nat.pow_add] at hq
 refine ⟨h8, Nat.div_lt_of_lt_mul (by rw [Nat.mul_comm]; exact hq), ?_⟩
 rw [show 10 - t = (10 - (t + 1)) + 1 by omega]
 simp only [vbF]
 rw [if_neg (by omega)]
theorem by_hi (q : Nat) : ((q : Int) % 128 + 128) = ((by_ (q % 128 + 128)).toNat : Int) := by rw [by_toNat]; omega
theorem by_lo {q : Nat} (h : q < 128) : (q : Int) = ((by_ q).toNat : Int) := by rw [by_toNat]; omega
theorem vbF_last {f q : Nat} (hf : 0 < f) (h : q < 128) : vbF f q = [by_ q] := by
 cases f with
 | zero => omega
 | succ f => simp only [vbF]; rw [if_pos h]
def NumPost (w : World) (n : Int) (e : Ending) (w' : World) : Prop := ∃ A k c, e = .returned (.slice A k c) ∧ OwB w' 5 A k c (vb (zig n)) ∧ Fresh w A ∧ Mod none_ w w' ∧ k ≤ 10
set_option maxRecDepth 100000
theorem num_ok (w : World) (n : Int) (h1 : -9223372036854775808 ≤ n) (h2 : n ≤ 9223372036854775807) : Calls Tryz.prog 219 #[.int .i64 n] w (NumPost w n) := by
 have hz := zig_lt h1 h2
 go_enter Tryz.func219, Tryz.ntmps219
 go_wp2_with fail
 refine (fold_ok _ n h1 h2).mono ?_
 rintro e w1 ⟨rfl, rfl⟩
 obtain ⟨M, hM⟩ : ∃ M, M = zig n := ⟨_, rfl⟩
 rw [← hM] at hz ⊢
 replace hM := zH hM
 go_wp2_with fail
 go_loopw [3, 4] (fun v x wr => ∃ q : Nat, x = .int .u64 q ∧ NumRel w M q v wr) (fun _ x _ => (intOf x).toNat)
 case atStart => exact ⟨M, rfl, none, 0, 0, [], rfl, Ow.nil _ _ _, (fun _ h => by cases h), Mod.refl _ w, rfl, by unfold NumOk; simpa using hz, by omega⟩
 case round =>
  obtain ⟨q, rfl, A, t, c, pre, rfl, ho, hf, hm, hpre, hq, ht⟩ := hrel
  have hb := bor8 q
  have hq64 : q < 18446744073709551616 := Nat.lt_of_lt_of_le hq (Nat.pow_le_pow_right (show 0 < 2 by omega) (show 64 - 7 * t ≤ 64 by omega))
  replace hq64 := zH hq64
  replace hz := zH hz
  replace ho := zH ho
  replace hf := zH hf
  replace hm := zH hm
  replace hpre := zH hpre
  by_cases hl : 128 ≤ q
  ·obtain ⟨g1, g2, g3⟩ := num_step ht hq hl
   replace hq := zH hq
   replace g2 := zH g2
   replace g3 := zH g3
   go_wp2_with (at_builtin; refine app8 rfl (.tmp 11) (.tmp 15) rfl rfl (ho.out.mod0 ((Mod.refl none_ _).alloc _)) rfl (rdb_one _ _ (by_hi q)) (by omega) ?_; intro A' c' w' ho' hm' hA'; replace ho' := zH ho'; replace hm' := zH hm'; replace hA' := zH hA')
   go_roundw
   case rel =>
    refine ⟨q / 128, rfl, A', t + 1, c', pre ++ [by_ (q % 128 + 128)], rfl, ho'.out, Fresh.app hf.out (hm.out.alloc _).size hA'.out, (hm.out.alloc _).app hf.out hm'.out, ?_, g2.out, by omega⟩
    rw [← hpre.out, g3.out, List.append_assoc]; rfl
   case measure => simp [intOf]; omega
  ·have hv : Hid (pre ++ [by_ q] = vb M) := by
    have := hpre.out
    rw [vbF_last (by omega) (by omega)] at this
    exact zH this
   go_wp2_with (at_builtin; go_loud (refine app8 rfl (.tmp 17) (.tmp 20) rfl rfl (ho.out.mod0 ((Mod.refl none_ _).alloc _)) rfl (rdb_one _ _ (by_lo (by omega))) (by omega) ?_; intro A' c' w' ho' hm' hA'; replace ho' := zH ho'; replace hm' := zH hm'; replace hA' := zH hA'))
   go_ret
   have h9 := ho'.out
   rw [hv.out, hM.out] at h9
   exact ⟨A', t + 1, c', rfl, h9, Fresh.app hf.out (hm.out.alloc _).size hA'.out, (hm.out.alloc _).app hf.out hm'.out, by omega⟩
def Rdr (w : World) (g B : Nat) (l : List UInt8) (e : Nat) : Prop :=
 ∃ A n c, Blk w g 301 #[.slice A n c, .int .i64 (e : Int)] ∧ RdB w A n l ∧ n ≤ c ∧ c ≤ 9223372036854775807 ∧ (∀ k, fp A k → k = B) ∧ g ≠ B
def only (g : Nat) : Nat → Prop := fun k => k = g
theorem Rdr.mod {w w' : World} {F : Nat → Prop} {g B : Nat} {l : List UInt8} {e : Nat} (h : Rdr w g B l e) (hm : Mod F w w') (h1 : ¬ F g) (h2 : ¬ F B) : Rdr w' g B l e := by
 obtain ⟨A, n, c, a1, a2, a3, a4, a5, a6⟩ := h
 exact ⟨A, n, c, a1.mod hm h1, a2.mod hm (fun k hk => by rw [a5 k hk]; exact h2), a3, a4, a5, a6⟩
theorem Rdr.mod0 {w w' : World} {g B : Nat} {l : List UInt8} {e : Nat} (h : Rdr w g B l e) (hm : Mod none_ w w') : Rdr w' g B l e := h.mod hm (fun hh => hh) (fun hh => hh)
theorem Rdr.empty {w : World} {g B : Nat} {e : Nat} (h : Blk w g 301 #[.slice none 0 0, .int .i64 (e : Int)]) (hB : g ≠ B) : Rdr w g B [] e :=
 ⟨none, 0, 0, h, Rd.none_, by omega, by omega, fun k hk => (by obtain ⟨a, ha, _⟩ := hk; cases ha), hB⟩
theorem Rdr.lt {w : World} {g B : Nat} {l : List UInt8} {e : Nat} (h : Rdr w g B l e) : g < w.heap.size := by
 obtain ⟨A, n, c, a1, _⟩ := h
 exact a1.lt
theorem Mod.set_only {w w' : World} {g : Nat} (h : Mod (only g) w w') (o : Nat) (u : Value) : Mod (only g) w (w'.setCell ⟨g, o, none⟩ u) := h.setCell (p := ⟨g, o, none⟩) (.inl rfl) u
def dn (l : List UInt8) (e : Nat) : Nat := if e ≠ 0 then e else if 0 < l.length then 3 else 0
theorem Blk.range {w : World} {g : Nat} {t : TypeId} {cs : Array Value} (h : Blk w g t cs) (o : Nat) (vs : List Value) (hv : (cs.toList.drop o).take vs.length = vs) : w.rangeAt g o vs := fun j v hj => by
 refine h.cell_ ?_
 have hl : j < vs.length := by
  rcases Nat.lt_or_ge j vs.length with h1 | h1
  ·exact h1
  ·rw [List.getElem?_eq_none h1] at hj; cases hj
 rw [← hv, List.getElem?_take, if_pos hl, List.getElem?_drop] at hj
 simpa using hj
theorem Blk.there {w : World} {g : Nat} {t : TypeId} {cs : Array Value} (h : Blk w g t cs) (o n : Nat) (hn : o + n ≤ cs.size) : w.there g o n := fun j hj =>
 ⟨by rw [h.cell, Array.getElem?_eq_getElem (by omega)]; rfl, h.frozen _⟩
def setL (cs : Array Value) (o : Nat) : List Value → Array Value
 | [] => cs
 | v :: vs => setL (cs.setIfInBounds o v) (o + 1) vs
theorem Blk.setCells {g : Nat} {t : TypeId} : ∀ (vs : List Value) (w : World) (cs : Array Value) (o : Nat), Blk w g t cs → Blk (w.setCells g o vs) g t (setL cs o vs)
 | [], _, _, _, h => h
 | v :: vs, w, cs, o, h => Blk.setCells vs _ _ (o + 1) (h.set_ o v)
theorem Mod.setCells {F : Nat → Prop} {g : Nat} : ∀ (vs : List Value) (w w' : World) (o : Nat), Mod F w w' → F g → Mod F w (w'.setCells g o vs)
 | [], _, _, _, h, _ => h
 | v :: vs, w, w', o, h, hg => Mod.setCells vs w _ (o + 1) (h.setCell (p := ⟨g, o, none⟩) (.inl hg) v) hg
theorem setL_toList : ∀ (vs : List Value) (cs : Array Value) (o : Nat), o + vs.length ≤ cs.size → (setL cs o vs).toList = cs.toList.take o ++ (vs ++ cs.toList.drop (o + vs.length))
 | [], cs, o, _ => by simp [setL]
 | v :: vs, cs, o, h => by
  simp only [List.length_cons] at h
  rw [setL, setL_toList vs _ (o + 1) (by simp only [Array.size_setIfInBounds]; omega)]
  apply List.ext_getElem?
  intro i
  simp only [Array.toList_setIfInBounds, List.getElem?_append, List.length_take, List.length_set, Array.length_toList, List.getElem?_take, List.getElem?_set, List.getElem?_drop, List.length_cons, List.cons_append]
  have h1 : min (o + 1) cs.size = o + 1 := by omega
  have h2 : min o cs.size = o := by omega
  rw [h1, h2]
  by_cases c1 : i < o
  ·rw [if_pos (by omega), if_pos (by omega), if_neg (by omega), if_pos c1, if_pos c1]
  ·by_cases c2 : i = o
   ·subst c2
    rw [if_pos (by omega), if_pos (by omega), if_pos rfl, if_pos (by omega), if_neg (by omega)]
    simp
   ·rw [if_neg (by omega), if_neg c1]
    obtain ⟨d, rfl⟩ : ∃ d, i = o + 1 + d := ⟨i - (o + 1), by omega⟩
    rw [show o + 1 + d - (o + 1) = d by omega, show o + 1 + d - o = d + 1 by omega]
    by_cases c3 : d < vs.length
    ·rw [if_pos c3, List.getElem?_cons_succ, List.getElem?_append_left c3]
    ·rw [if_neg c3, List.getElem?_cons_succ, List.getElem?_append_right (by omega), List.getElem?_drop, if_neg (by omega)]
     congr 1; omega
section
variable {P : Program}
theorem wpList_load_blk {ops : Array Oper} {rest : List Oper} {op : Oper} {a : Act} {w : World} {Q : Exit → Act → World → Prop} (hgd : op.guard = none) (ty : TypeId) (x : Operand) (ho : op.op = .load ty x)
  (g o : Nat) (hx : a.eval x = .pointer (some ⟨g, o, none⟩)) {t : TypeId} {cs : Array Value} (hb : Blk w g t cs) (vs : List Value) (hv : (cs.toList.drop o).take vs.length = vs) {d : TypeDesc} (hu : P.underlying ty = some d) (hd : d.isRow = true)
  (hi : (P.info? ty).map (·.size) = some vs.length) (h : wpList P ops Q rest (a.put op.dst (.agg vs.toArray)) w) : wpList P ops Q (op :: rest) a w :=
 wpList_load_mid hgd ty x ho g o hx vs d (hb.range o vs hv) hu hd hi h
theorem wpList_store_blk {ops : Array Oper} {rest : List Oper} {op : Oper} {a : Act} {w : World} {Q : Exit → Act → World → Prop} (hgd : op.guard = none) (ty : TypeId) (x y : Operand) (ho : op.op = .store ty x y)
  (g o : Nat) (cells : Array Value) (hx : a.eval x = .pointer (some ⟨g, o, none⟩)) (hy : a.eval y = .agg cells) {t : TypeId} {cs : Array Value} (hb : Blk w g t cs) (hn : o + cells.size ≤ cs.size)
  (hi : (P.info? ty).map (·.size) = some cells.size) (h1 : cells.toList.all (·.oneCell') = true) (cs' : Array Value) (hcs : cs.toList.take o ++ (cells.toList ++ cs.toList.drop (o + cells.size)) = cs'.toList)
  (h : ∀ w', Blk w' g t cs' → Mod (only g) w w' → wpList P ops Q rest (a.put op.dst undef) w') : wpList P ops Q (op :: rest) a w :=
 wpList_store_mid hgd ty x y ho g o cells hx hy (hb.there o _ hn) hi (by rw [← Array.all_toList]; exact h1) (h _ (by have e := setL_toList cells.toList cs o (by simpa using hn); rw [Array.length_toList, hcs, Array.toList_inj] at e; rw [← e]; exact Blk.setCells _ _ _ _ hb) (Mod.setCells _ _ _ _ (Mod.refl _ w) rfl))
theorem ret_row {fn : Func} {p : Tmp} {ty : TypeId} (h : fn.results = #[.cell p ty]) {a : Act} {w : World} {R : Ending → World → Prop} (g : Nat) {t : TypeId} {cs : Array Value} (hp : a.tmps.getD p undef = .pointer (some ⟨g, 0, none⟩))
  (hg : Blk w g t cs) {d : TypeDesc} (hu : P.underlying ty = some d) (hd : (match d with | .struct _ | .array _ _ => true | _ => false) = true) (hi : (P.info? ty).map (·.size) = some cs.size) (hdf : a.defers = [])
  (hR : R (.returned (.agg cs)) w) : bodyPost P fn R .ret a w :=
 bodyPost_ret (results_cell_row h a.tmps w g t cs (0, 0) d hp hg hu hd hi) hdf hR
end
theorem Mod.in_new {w w1 w2 : World} {g : Nat} (h : Mod none_ w w1) (hg : w.heap.size ≤ g) (k : Mod (only g) w1 w2) : Mod none_ w w2 :=
 h.then k fun i hi hk => by have : i = g := hk; omega
structure Rs where
 r : Rc
 L : SV
 D : SV
def rsC (x : Rs) : List Value := [.int .i64 x.r.i.r, .int .i64 x.r.i.n, .int .i64 x.r.bal, .int .i64 x.r.st, .int .i64 x.r.by_, .int .i64 x.r.e.o.c, .int .i64 x.r.e.o.s, .int .i64 x.r.e.o.k, .string (txt x.r.e.o.acct), .string (txt x.r.e.o.peer), .int .i64 x.r.e.o.sum, .slice x.L.a x.L.n x.L.c, .int .i64 x.r.e.o.per, .int .i64 x.r.e.o.hold, .string (txt x.r.e.o.note), .bool x.r.e.none, .slice x.D.a x.D.n x.D.c]
def rss (xs : List Rs) : List Value := xs.flatMap rsC
theorem rss_length (xs : List Rs) : (rss xs).length = xs.length * 17 := flat_length _ 17 (fun _ => rfl) xs
theorem rss_append (C D : List Rs) : rss (C ++ D) = rss C ++ rss D := by unfold rss; rw [List.flatMap_append]
theorem rss_one (xs : List Rs) : ∀ u ∈ rss xs, u.oneCell' = true := by
 intro u hu
 unfold rss at hu
 rw [List.mem_flatMap] at hu
 obtain ⟨a, _, ha⟩ := hu
 simp only [rsC, List.mem_cons, List.not_mem_nil, or_false] at ha
 rcases ha with rfl | rfl | rfl | rfl | rfl | rfl | rfl | rfl | rfl | rfl | rfl | rfl | rfl | rfl | rfl | rfl | rfl <;> rfl
def RdR (w : World) (A : Option Addr) (n : Nat) (xs : List Rs) : Prop := Rd w 17 A n (rss xs)
def OwR (w : World) (A : Option Addr) (n c : Nat) (xs : List Rs) : Prop := Ow w 57 17 A n c (rss xs)
def RsM (w : World) (xs : List Rs) : Prop := ∀ x ∈ xs, EnM w x.r.e x.L x.D
def zeroR : Value := .agg #[.int .i64 0, .int .i64 0, .int .i64 0, .int .i64 0, .int .i64 0, .int .i64 0, .int .i64 0, .int .i64 0, .string ⟨#[]⟩, .string ⟨#[]⟩, .int .i64 0, .slice none 0 0, .int .i64 0, .int .i64 0, .string ⟨#[]⟩, .bool false, .slice none 0 0]
set_option maxRecDepth 512
theorem rcinfo : (Tryz.prog.info? 57).map (fun i => (i.zero, i.size, i.bytes)) = some (some zeroR, 17, 192) := by kernel_rfl
theorem appR {w : World} {ops : Array Oper} {rest : List Oper} {o : Oper} {a : Act} {Q : Exit → Act → World → Prop} (hgd : o.guard = none) (s x : Operand)
  (ho : o.op = .call { callee := .builtin .append, args := #[s, x], argTypes := #[35, 35] })
  {A : Option Addr} {n c : Nat} {xs : List Rs} (hs : a.eval s = .slice A n c) (hown : OwR w A n c xs)
  {S : Option Addr} {m d : Nat} {news : List Rs} (hx : a.eval x = .slice S m d) (hr : RdR w S m news) (hb : (n + m) * 192 ≤ 140737488355328)
  (h : ∀ A' c' w', OwR w' A' (n + m) c' (xs ++ news) → Mod (fp A) w w' → (A' = A ∨ A' = some ⟨w.heap.size, 0, none⟩) → wpList Tryz.prog ops Q rest (a.put o.dst (.slice A' (n + m) c')) w') : wpList Tryz.prog ops Q (o :: rest) a w := by
 obtain ⟨i0, hi, hz0, hz1, hz2⟩ := info_parts rcinfo
 refine wpList_append_ow hgd s x 35 ho 57 i0 _ 17 192 Tryz.underlying35 hi hz0 hz1 hz2 rfl (by omega) A n c (rss xs) hs hown S m d (rss news) hx hr (rss_one _) (by omega) (by omega) ?_
 intro A' c' w' h1
 rw [← rss_append] at h1
 exact h A' c' w' h1
theorem rdr_get {w : World} {A : Option Addr} {n : Nat} {xs : List Rs} (h : RdR w A n xs) {j : Nat} (hj : j < n) : ∃ b o x, A = some ⟨b, o, none⟩ ∧ x ∈ xs ∧ xs[j]? = some x ∧ w.rangeAt b (o + j * 17) (rsC x) := by
 have hl : xs.length = n := by have := h.1; rw [rss_length] at this; omega
 obtain ⟨b, o, e, hc⟩ := Rd.form h (show 0 < n by omega) (by omega)
 have hjl : j < xs.length := by omega
 have hg := flat_get rsC 17 (fun _ => rfl) xs j xs[j] (List.getElem?_eq_getElem hjl)
 refine ⟨b, o, xs[j], e, List.getElem_mem hjl, List.getElem?_eq_getElem hjl, fun i v hv => ?_⟩
 have hi : i < 17 := by
  rcases Nat.lt_or_ge i 17 with h1 | h1
  ·exact h1
  ·rw [List.getElem?_eq_none (by simpa [rsC] using h1)] at hv; cases hv
 rw [Nat.add_assoc]
 exact hc (j * 17 + i) v ((hg i hi).trans hv)
def RsOk (x : Rs) : Prop := x.L.n ≤ 140737488355328 ∧ x.D.n ≤ 140737488355328 ∧ (Lit.int .i64 x.r.e.o.k).wf = true ∧ ∀ l ∈ x.r.e.o.legs, (txt l.n).size ≤ maxLen
def FarR (F : Nat → Prop) (x : Rs) : Prop := (0 < x.L.n → ∀ k, fp x.L.a k → ¬ F k) ∧ (0 < x.D.n → ∀ k, fp x.D.a k → ¬ F k)
theorem FarR.en {F : Nat → Prop} {x : Rs} {w w' : World} (hf : FarR F x) (h : EnM w x.r.e x.L x.D) (hm : Mod F w w') : EnM w' x.r.e x.L x.D :=
 ⟨⟨Rd.mod' h.od.rd hm hf.1, h.od.cap⟩, Rd.mod' h.rd hm hf.2, h.cap⟩
theorem FarR.mono {F G : Nat → Prop} {x : Rs} (hf : FarR F x) (h : ∀ k, G k → F k) : FarR G x := ⟨fun h0 k hk hg => hf.1 h0 k hk (h k hg), fun h0 k hk hg => hf.2 h0 k hk (h k hg)⟩
def FarsR (F : Nat → Prop) (xs : List Rs) : Prop := ∀ x ∈ xs, FarR F x
theorem RsM.mod {F : Nat → Prop} {xs : List Rs} {w w' : World} (h : RsM w xs) (hf : FarsR F xs) (hm : Mod F w w') : RsM w' xs := fun x hx => (hf x hx).en (h x hx) hm
theorem RsM.mod0 {xs : List Rs} {w w' : World} (h : RsM w xs) (hm : Mod none_ w w') : RsM w' xs := fun x hx => (h x hx).mod0 hm
theorem farR_new {w : World} {x : Rs} (h : EnM w x.r.e x.L x.D) {F : Nat → Prop} (hF : ∀ k, F k → w.heap.size ≤ k) : FarR F x := by
 have b1 : ∀ {n : Nat} {A : Option Addr} {xs : List Value}, Rd w 2 A n xs → 0 < n → ∀ k, fp A k → k < w.heap.size := by
  intro n A xs hr hn k hk
  obtain ⟨a, e, rfl⟩ := hk
  obtain ⟨b, o, e', hc⟩ := hr.form hn (by omega)
  have hl : 0 < xs.length := by rw [hr.1]; omega
  have := hc 0 _ (List.getElem?_eq_getElem hl)
  rw [e] at e'
  cases e'
  exact World.block_lt_of_cell? w _ this
 exact ⟨fun h0 k hk hf => by have := b1 h.od.rd h0 k hk; have := hF k hf; omega, fun h0 k hk hf => by have := b1 h.rd h0 k hk; have := hF k hf; omega⟩
theorem rsC_len (x : Rs) : (rsC x).length = 17 := rfl
theorem ow_setCells {w : World} {e : TypeId} {size n c g : Nat} {xs : List Value} (h : Ow w e size (some ⟨g, 0, none⟩) n c xs) (o : Nat) (vs : List Value) (ho : o + vs.length ≤ n * size) :
  Ow (w.setCells g o vs) e size (some ⟨g, 0, none⟩) n c (xs.take o ++ (vs ++ xs.drop (o + vs.length))) := by
 obtain ⟨h1, h2, h3, h4⟩ := h
 rcases h4 with ⟨h4, _⟩ | ⟨g', cur, h4, hb, h5, h6⟩
 ·cases h4
 ·cases h4
  have hns : n * size ≤ cur.size := Nat.le_trans (Nat.mul_le_mul_right _ h2) h5
  have hsz := setL_toList vs cur o (by omega)
  refine ⟨by simp only [List.length_append, List.length_take, List.length_drop]; omega, h2, h3, .inr ⟨g, _, rfl, Blk.setCells _ _ _ _ hb, ?_, ?_⟩⟩
  ·have : (setL cur o vs).size = cur.size := by
    rw [← Array.length_toList, hsz]
    simp only [List.length_append, List.length_take, List.length_drop, Array.length_toList]; omega
   rw [this]; exact h5
  ·rw [hsz, ← h6]
   apply List.ext_getElem?
   intro i
   have m1 : min o cur.size = o := by omega
   have m2 : min o (min (n * size) cur.size) = o := by omega
   by_cases hi : i < n * size
   ·simp only [List.getElem?_take, List.getElem?_append, List.length_take, List.getElem?_drop, Array.length_toList, m1, m2, if_pos hi]
    by_cases c1 : i < o
    ·simp only [if_pos c1]
    ·simp only [if_neg c1]
     by_cases c2 : i - o < vs.length
     ·simp only [if_pos c2]
     ·simp only [if_neg c2]
      rw [if_pos (by omega)]
   ·rw [List.getElem?_take, if_neg hi, List.getElem?_eq_none]
    simp only [List.length_append, List.length_take, List.length_drop, Array.length_toList]; omega
theorem OwR.len {w : World} {A : Option Addr} {n c : Nat} {xs : List Rs} (h : OwR w A n c xs) : xs.length = n := by have := h.1; rw [rss_length] at this; omega
theorem OwR.take {w : World} {A : Option Addr} {n c : Nat} {xs : List Rs} (h : OwR w A n c xs) {k : Nat} (hk : k ≤ n) : OwR w A k c (xs.take k) := by
 have := Ow.take_ h hk
 have e : (rss xs).take (k * 17) = rss (xs.take k) := by
  have h0 : rss xs = rss (xs.take k) ++ rss (xs.drop k) := by rw [← rss_append, List.take_append_drop]
  rw [h0]
  have hl : (rss (xs.take k)).length = k * 17 := by rw [rss_length, List.length_take, h.len, Nat.min_eq_left hk]
  rw [List.take_append, hl, List.take_of_length_le (by omega)]
  simp
 rw [e] at this
 exact this
theorem RdR.len {w : World} {A : Option Addr} {n : Nat} {xs : List Rs} (h : RdR w A n xs) : xs.length = n := by have := h.1; rw [rss_length] at this; omega
theorem rdR_one (w : World) (x : Rs) : RdR (w.alloc (.cells #[.int .i64 x.r.i.r, .int .i64 x.r.i.n, .int .i64 x.r.bal, .int .i64 x.r.st, .int .i64 x.r.by_, .int .i64 x.r.e.o.c, .int .i64 x.r.e.o.s, .int .i64 x.r.e.o.k, .string (txt x.r.e.o.acct), .string (txt x.r.e.o.peer), .int .i64 x.r.e.o.sum, .slice x.L.a x.L.n x.L.c, .int .i64 x.r.e.o.per, .int .i64 x.r.e.o.hold, .string (txt x.r.e.o.note), .bool x.r.e.none, .slice x.D.a x.D.n x.D.c] 57)) (some ⟨w.heap.size, 0, none⟩) 1 [x] :=
 rdn w 57 17 1 w.heap.size #[.int .i64 x.r.i.r, .int .i64 x.r.i.n, .int .i64 x.r.bal, .int .i64 x.r.st, .int .i64 x.r.by_, .int .i64 x.r.e.o.c, .int .i64 x.r.e.o.s, .int .i64 x.r.e.o.k, .string (txt x.r.e.o.acct), .string (txt x.r.e.o.peer), .int .i64 x.r.e.o.sum, .slice x.L.a x.L.n x.L.c, .int .i64 x.r.e.o.per, .int .i64 x.r.e.o.hold, .string (txt x.r.e.o.note), .bool x.r.e.none, .slice x.D.a x.D.n x.D.c] (0, 0) rfl rfl
theorem rc_size : (Tryz.prog.info? 57).map (·.size) = some 17 := by kernel_rfl
end Go.Proofs.YtfkfiokkjjnhiaaGreat
namespace Go.Proofs.YtfkfiokkjjnhiaaGreat
open Go.RowKit
open Go.Maps (Keyed string_keyed)
abbrev NameV := List UInt8 × Value
def VR (v : Value) : Option (DataW Value × List MemPlace) := some (.held v, [])
def ent (p : NameV) : Lit × DataW Value := (.string p.1, .held p.2)
def mapD (L : List NameV) : DataW Value := .map (L.map ent)
def findL (L : List NameV) (s : List UInt8) : Option Value := (L.find? (fun p => p.1 == s)).map (·.2)
def insL (x : NameV) : List NameV → List NameV
 | [] => [x]
 | y :: l => if bytesBefore x.1 y.1 then x :: y :: l else y :: insL x l
def putL (s : List UInt8) (v : Value) (L : List NameV) : List NameV := insL (s, v) (L.filter fun p => !(p.1 == s))
def MapAt (w : World) (k : TypeId) (b : Nat) (L : List NameV) : Prop := ∃ n, n < maxLen ∧ w.ownsMap Tryz.prog k VR b n (mapD L)
theorem has_mapD (L : List NameV) (s : List UInt8) : Maps.has (mapD L) (.string s) = (findL L s).isSome := by
 unfold mapD Maps.has findL
 induction L with
 | nil => rfl
 | cons p L ih =>
  simp only [List.map_cons, List.any_cons, List.find?_cons]
  show (p.1 == s || _) = _
  by_cases h : (p.1 == s) = true
  ·simp [h]
  ·simp only [Bool.not_eq_true] at h
   rw [h]; simpa using ih
theorem atKey_mapD (L : List NameV) (s : List UInt8) (z : Value) : (mapD L).atKey (.string s) (.held z) = .held ((findL L s).getD z) := by
 unfold mapD DataW.atKey findL
 induction L with
 | nil => rfl
 | cons p L ih =>
  simp only [List.map_cons, List.find?_cons]
  have : (ent p).1.sameKey (.string s) = (p.1 == s) := rfl
  rw [this]
  by_cases h : (p.1 == s) = true
  ·simp [h, ent]
  ·simp only [Bool.not_eq_true] at h
   rw [h]; simpa using ih
theorem size_mapD (L : List NameV) : Maps.size (mapD L) = L.length := by simp [mapD, Maps.size]
theorem put_mapD (L : List NameV) (s : List UInt8) (v : Value) : (mapD L).put (.string s) (.held v) = mapD (putL s v L) := by
 have hf : (L.map ent).filter (fun p => !p.1.sameKey (.string s)) = (L.filter fun p => !(p.1 == s)).map ent := by
  rw [List.filter_map]; rfl
 have hi : ∀ l : List NameV, DataW.insert (Lit.string s, DataW.held v) (l.map ent) = (insL (s, v) l).map ent := by
  intro l
  induction l with
  | nil => rfl
  | cons y l ih =>
   simp only [List.map_cons, DataW.insert, insL]
   have : (Lit.string s).before (ent y).1 = bytesBefore s y.1 := rfl
   rw [this, ih]
   split <;> rfl
 show DataW.map _ = DataW.map _
 rw [hf, hi]; rfl
section
variable {F : Nat → Prop} {w w' : World} {k : TypeId} {b : Nat} {L : List NameV}
theorem MapAt.lt (h : MapAt w k b L) : b < w.heap.size := by obtain ⟨n, _, h⟩ := h; exact h.lt
theorem MapAt.mod (h : MapAt w k b L) (hm : Mod F w w') (hb : ¬ F b) : MapAt w' k b L := by
 have hlt := h.lt
 obtain ⟨n, hn, es, clock, h1, h2, h3, h4⟩ := h
 exact ⟨n, hn, es, clock, (hm.block b hlt hb).trans h1, h2, h3, h4⟩
theorem MapAt.alloc (h : MapAt w k b L) (o : Obj) : MapAt (w.alloc o) k b L := by obtain ⟨n, hn, h⟩ := h; exact ⟨n, hn, h.alloc o⟩
theorem MapAt.made (w : World) (k : TypeId) : MapAt (w.alloc (.map #[] 0)) k w.heap.size [] := ⟨0, by decide, World.ownsMap_made _ _ _ _⟩
theorem MapAt.tight (h : MapAt w k b L) : w.ownsMap Tryz.prog k VR b L.length (mapD L) := by
 obtain ⟨n, hn, es, clock, h1, h2, h3, h4⟩ := h
 refine ⟨es, clock, h1, h2, ?_, h4⟩
 have := congrArg Maps.size h4
 rw [size_mapD] at this
 rw [this]; simp [Maps.size, length_sorted]
end
section
variable (w : World) {ops : Array Oper} {rest : List Oper} {o : Oper} {a : Act} {Q : Exit → Act → World → Prop}
theorem map_look_ok (hg : o.guard = none) (m x : Operand) (t : TypeId) (hop : o.op = Op.lookup t m x true) (k e : TypeId) (ht : Tryz.prog.underlying t = some (.map k e)) (hk : Tryz.prog.underlying k = some .string)
  {z : Value} (hz : (zeroValue e).run Tryz.prog w = .ok z w) (b : Nat) (L : List NameV) (hm : a.eval m = .map (some b)) (h : MapAt w k b L) (s : ByteArray) (hs : s.size ≤ maxLen) (hx : a.eval x = .string s)
  (hK : wpList Tryz.prog ops Q rest (a.put o.dst (.tuple #[(findL L s.data.toList).getD z, .bool (findL L s.data.toList).isSome])) w) :
  wpList Tryz.prog ops Q (o :: rest) a w := by
 refine wpList_lookup_own_ok w hg m x t hop k e (string_keyed hk) ht VR hz (.held z) [] rfl b _ (mapD L) hm h.tight _ (.string s.data.toList) hx (Go.WideMaps.keyOf_string_mk hk hs) ?_
 intro v ps hv
 rw [atKey_mapD] at hv
 have : v = (findL L s.data.toList).getD z := by simp [VR] at hv; exact hv.1
 rw [this, has_mapD]
 exact hK
theorem map_look (hg : o.guard = none) (m x : Operand) (t : TypeId) (hop : o.op = Op.lookup t m x false) (k e : TypeId) (ht : Tryz.prog.underlying t = some (.map k e)) (hk : Tryz.prog.underlying k = some .string)
  {z : Value} (hz : (zeroValue e).run Tryz.prog w = .ok z w) (b : Nat) (L : List NameV) (hm : a.eval m = .map (some b)) (h : MapAt w k b L) (s : ByteArray) (hs : s.size ≤ maxLen) (hx : a.eval x = .string s)
  (hK : wpList Tryz.prog ops Q rest (a.put o.dst ((findL L s.data.toList).getD z)) w) :
  wpList Tryz.prog ops Q (o :: rest) a w := by
 refine wpList_plain hg fun K' hK' => ?_
 obtain ⟨v, ps, hrun, hv⟩ := h.tight.lookup (string_keyed hk) ht hz (zd := .held z) (zp := []) rfl (Go.WideMaps.keyOf_string_mk hk hs)
 rw [atKey_mapD] at hv
 have : v = (findL L s.data.toList).getD z := by simp [VR] at hv; exact hv.1
 rw [this] at hrun
 unfold Oper.wp
 simp [execOp, hop, hm, hx, hrun, Result.andThen]
 exact hK' _ _ hK
theorem map_store (hg : o.guard = none) (m x v : Operand) (t : TypeId) (hop : o.op = Op.mapUpdate t m x v) (k e : TypeId) (ht : Tryz.prog.underlying t = some (.map k e)) (hk : Tryz.prog.underlying k = some .string)
  (b : Nat) (L : List NameV) (hm : a.eval m = .map (some b)) (h : MapAt w k b L) (hroom : L.length + 1 < maxLen) (s : ByteArray) (hs : s.size ≤ maxLen) (hx : a.eval x = .string s) (val : Value) (hv : a.eval v = val)
  (hK : ∀ w', MapAt w' k b (putL s.data.toList val L) → Mod (· = b) w w' → w'.heap.size = w.heap.size → wpList Tryz.prog ops Q rest (a.put o.dst undef) w') :
  wpList Tryz.prog ops Q (o :: rest) a w := by
 refine wpList_mapUpdate_in w hg m x v t hop k e (string_keyed hk) ht VR b _ (mapD L) hm h.tight (by omega) _ val (.string s.data.toList) hx hv (Go.WideMaps.keyOf_string_mk hk hs) (.held val) [] rfl ?_
 intro w' h1 h2
 rw [put_mapD] at h1
 refine hK w' ⟨_, hroom, h1⟩ ((Mod.of_grown h2.grown).mono fun i hi => by cases hi; rfl) ?_
 obtain ⟨es, c, es', c', _, rfl⟩ := h2
 simp [ChangeMaps.setBlock]
end
def Sorted (L : List NameV) : Prop := L.Pairwise fun p q => bytesBefore p.1 q.1 = true
theorem MapAt.sorted {w : World} {k : TypeId} {b : Nat} {L : List NameV} (h : MapAt w k b L) (hk : Tryz.prog.underlying k = some .string) : Sorted L := by
 obtain ⟨n, _, es, clock, _, F, _, hD⟩ := h
 have hr := WideShapes.rising_pairwise _ (Maps.fit_rising (string_keyed hk) F)
 have : L.map ent = (es.toList.map (WideElems.rg Tryz.prog k VR)).foldr DataW.insert [] := by
  unfold mapD at hD; injection hD
 rw [← this, List.pairwise_map] at hr
 exact hr
end Go.Proofs.YtfkfiokkjjnhiaaGreat
