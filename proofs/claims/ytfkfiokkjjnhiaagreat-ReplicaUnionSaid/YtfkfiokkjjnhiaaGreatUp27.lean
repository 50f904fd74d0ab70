import Derived.Test.YtfkfiokkjjnhiaaGreatUp19
import Derived.Test.YtfkfiokkjjnhiaaGreatUp4
import Derived.Test.YtfkfiokkjjnhiaaGreatUp21
import Derived.Laws.CopyOwn
import Derived.Deep.RegionLaw
import Derived.Deep.LoopGhost
import Derived.Test.YtfkfiokkjjnhiaaGreatUp24
set_option linter.unusedVariables false
set_option linter.unusedSimpArgs false
set_option maxHeartbeats 16000000
namespace Go.Proofs.YtfkfiokkjjnhiaaGreat.Kn
open Go.RowKit
def mOneT : Value := .bool true
def zOneT : Value := .bool false
def fillT (n k : Nat) : List Value := List.replicate k mOneT ++ List.replicate (n - k) zOneT
theorem fillT_len {n k : Nat} (h : k ≤ n) : (fillT n k).length = n := by simp [fillT]; omega
theorem fillT_zero (n : Nat) : madeCells #[zOneT] n = (fillT n 0).toArray := by
 apply Array.ext'
 simp [madeCells, fillT, Nat.mod_one]
 apply List.ext_getElem?
 intro i
 simp only [List.getElem?_replicate]
 by_cases h : i < n <;> simp [h]
theorem fillT_full (n : Nat) : (fillT n n).toArray = rowT n fun _ => true := by
 apply Array.ext'
 simp [fillT, rowT, mOneT]
 apply List.ext_getElem?
 intro i
 simp only [List.getElem?_replicate, List.getElem?_map]
 by_cases h : i < n <;> simp [h]
theorem fillT_splice {n k j : Nat} (h : k + j ≤ n) : splice (fillT n k) k (List.replicate j mOneT) = fillT n (k + j) := by
 unfold splice fillT
 have e1 : (List.replicate k mOneT ++ List.replicate (n - k) zOneT).take k = List.replicate k mOneT := by
  rw [List.take_append_of_le_length (by simp)]; simp
 have e2 : (List.replicate k mOneT ++ List.replicate (n - k) zOneT).drop (k + (List.replicate j mOneT).length) = List.replicate (n - (k + j)) zOneT := by
  rw [List.drop_append]
  simp
  omega
 rw [e1, e2, ← List.append_assoc, List.replicate_append_replicate]
theorem fillT_get {n k i : Nat} (h : i < k) : (fillT n k)[i]? = some mOneT := by
 unfold fillT
 rw [List.getElem?_append_left (by simpa using h)]
 simp [h]
theorem step_repT {ops : Array Oper} {o : Oper} {a : Act} {w w1 : World} {K : Act → World → Prop} {Q : Exit → Act → World → Prop} {E : Prop} (hgd : o.guard = none) (d s : Operand)
  (ho : o.op = .call { callee := .builtin .copy, args := #[d, s], argTypes := #[168, 168] }) {g j q jj : Nat} (hd : a.eval d = .slice (some ⟨g, j, none⟩) q q) (hs : a.eval s = .slice (some ⟨g, 0, none⟩) j (j + q))
  (hjj : jj = Nat.min j q) (hb : Blk w g 4 (fillT (j + q) j).toArray) (hB : Below g w1 w)
  (h : ∀ w', Blk w' g 4 (fillT (j + q) (j + jj)).toArray → Below g w1 w' → K (a.put o.dst (goInt jj)) w') :
  if Region.wanted o (yielded ops a.tmps) = true then Oper.wp Tryz.prog o a w K Q else E := by
 have hl : (List.replicate jj mOneT).length = jj := by simp
 have h1 : jj ≤ j ∧ jj ≤ q := by rw [hjj]; simp only [Nat.min_def]; split <;> omega
 refine step_copy_splice hgd d s 168 168 ho 4 Tryz.underlying168 (by kernel_rfl) (some ⟨g, j, none⟩) (some ⟨g, 0, none⟩) q q j (j + q) hd hs g j (fillT (j + q) j) 4 hb (List.replicate jj mOneT) (by rw [hl]; exact hjj) (fun _ => ⟨rfl, _, rfl, fun i v hv => ?_⟩) (by rw [fillT_len (by omega), hl]; omega) (fun u hu => by rw [List.eq_of_mem_replicate hu]; rfl) g w1 hB (Nat.le_refl _) ?_
 ·have h2 : i < jj := by
   rcases Nat.lt_or_ge i jj with h | h
   ·exact h
   ·rw [List.getElem?_eq_none (by simpa using h)] at hv; cases hv
  have h3 := hb.cell_ (i := i) (v := mOneT) (by simpa using fillT_get (n := j + q) (show i < j by omega))
  rw [add_lit]
  have h4 : v = mOneT := by rw [List.getElem?_replicate, if_pos h2] at hv; injection hv with hv; exact hv.symm
  rw [h4]; exact h3
 ·rw [hl]
  intro w' hg hbl
  have hg' := hg.out
  rw [fillT_splice (by omega)] at hg'
  exact h w' hg' hbl
def RepRelT (w : World) (n k : Nat) (wr : World) : Prop := Blk wr w.heap.size 4 (fillT n k).toArray ∧ Mod none_ w wr
set_option maxRecDepth 100000
theorem repeatT_ok (w : World) (b : Nat) (d : Nat) (hb : w.cell? ⟨b, 0, none⟩ = some mOneT) (n : Nat) (hn : n ≤ 1000000) :
  Calls Tryz.prog 87 #[.slice (some ⟨b, 0, none⟩) 1 d, .int .i64 (n : Int)] w fun e w' => e = .returned (.slice (some ⟨w.heap.size, 0, none⟩) n n) ∧ Blk w' w.heap.size 4 (rowT n fun _ => true) ∧ Mod none_ w w' := by
 have km := zH (fun W => show Calls Tryz.prog 158 #[.int .u64 ((1 : Nat) : Int), .int .u64 (n : Int)] W (fun e w' => e = .returned (.tuple #[.int .u64 0, .int .u64 (n : Int)]) ∧ w' = W) from by
  have := Tryz.bits_Mul 1 n (by omega) (by omega) W
  rw [show 1 * n / 18446744073709551616 = 0 by omega, show 1 * n % 18446744073709551616 = n by omega] at this
  exact this)
 have hlt := World.block_lt_of_cell? w _ hb
 have hmk := fun W => make_run (P := Tryz.prog) W 168 4 (.bool false) 1 n Tryz.underlying168 boolinfo rfl (by omega) (by omega)
 have hw1 : IntKind.u64.wrap (n : Int) = (n : Int) := by rw [IntKind.wrap_u64]; omega
 have hw2 : IntKind.i64.wrap (n : Int) = (n : Int) := by rw [IntKind.wrap_i64]; omega
 have hsz : (Tryz.prog.info? 4).map (·.size) = some 1 := by kernel_rfl
 replace hb := zH hb
 go_enter Tryz.func87, Tryz.ntmps87
 go_wp2_with fail
 refine (km.out _).mono ?_
 rintro e w1 ⟨rfl, rfl⟩
 dsimp only
 obtain ⟨j0, hj0⟩ : ∃ j, j = Nat.min 1 n := ⟨_, rfl⟩
 have hj1 : j0 ≤ n ∧ j0 ≤ 1 ∧ (0 < n → 0 < j0) := by rw [hj0]; simp only [Nat.min_def]; split <;> omega
 have hone : ∀ j, ∀ u ∈ List.replicate j mOneT, u.oneCell' = true := fun j u hu => by rw [List.eq_of_mem_replicate hu]; rfl
 have hblk : Hid (Blk (w1.alloc (.cells (madeCells #[.bool false] n) 4)) w1.heap.size 4 (fillT n 0).toArray) := zH (by
  rw [← fillT_zero]
  exact Blk.new w1 4 (madeCells #[.bool false] n))
 have hbc : Hid ((w1.alloc (.cells (madeCells #[.bool false] n) 4)).cell? ⟨b, 0, none⟩ = some mOneT) := zH (((Mod.refl none_ w1).alloc _).cell_some hb.out (fun h => h))
 have hsrc : Hid (∀ (i : Nat) v, (List.replicate j0 mOneT)[i]? = some v → (w1.alloc (.cells (madeCells #[.bool false] n) 4)).cell? ((⟨b, 0, none⟩ : Addr).add i) = some v) := zH (fun i v hv => by
  have h1 : i < j0 := by
   rcases Nat.lt_or_ge i j0 with h | h
   ·exact h
   ·rw [List.getElem?_eq_none (by simpa using h)] at hv; cases hv
  have h2 : i = 0 := by omega
  subst h2
  rw [add_zero_, hbc.out, ← hv]
  simp [h1])
 have hB0 : Hid (Below w1.heap.size w1 (w1.alloc (.cells (madeCells #[.bool false] n) 4))) := zH (Mod.below0 ((Mod.refl none_ w1).alloc _))
 have hj2 := hj1.1
 have hj3 := hj1.2.1
 have hj4 := hj1.2.2
 replace hj0 := zH hj0
 replace hj1 := zH hj1
 replace hone := zH hone
 replace hj4 := zH hj4
 go_wp2_with (show wpList _ _ _ (⟨some 33, _, _, _, _, _⟩ :: _) _ _; go_loud (refine wpList_copy_splice rfl (.tmp 31) (.tmp 32) 168 168 rfl 4 Tryz.underlying168 hsz (some ⟨w1.heap.size, 0, none⟩) (some ⟨b, 0, none⟩) n n 1 d rfl rfl w1.heap.size 0 (fillT n 0) 4 hblk.out (List.replicate j0 mOneT) (by rw [List.length_replicate]; exact hj0.out) (fun _ => ⟨rfl, _, rfl, hsrc.out⟩) (by rw [fillT_len (Nat.zero_le _)]; simp; omega) (hone.out _) w1.heap.size w1 hB0.out (Nat.le_refl _) ?_; rw [List.length_replicate]; intro w2 hg2 hbl2; replace hbl2 := zH hbl2))
 have hR2 : Hid (RepRelT w1 n j0 w2) := zH ⟨by
  have h1 := hg2.out
  have h2 := fillT_splice (n := n) (k := 0) (j := j0) (by omega)
  rw [h2, Nat.zero_add] at h1
  exact h1, Mod.of_below hbl2.out⟩
 clear hg2 hbl2 hB0 hsrc hbc hblk
 go_wp2_with fail
 go_loopg [8] (n) (fun k v wr => ∃ j : Nat, v = .int .i64 j ∧ j ≤ n ∧ (0 < n → 0 < j) ∧ RepRelT w1 n j wr ∧ n ≤ j + k)
 case atStart => exact ⟨j0, rfl, hj2, hj4.out, hR2.out, by omega⟩
 case round =>
  obtain ⟨j, rfl, hjn, hjp, ⟨hblk, hm⟩, hk⟩ := hrel
  by_cases hlt : j < n
  ·have hj0' : 0 < j := hjp (by omega)
   obtain ⟨q, rfl⟩ : ∃ q, n = j + q := ⟨n - j, by omega⟩
   obtain ⟨jj, hjj⟩ : ∃ x, x = Nat.min j q := ⟨_, rfl⟩
   have hjj1 : jj ≤ j ∧ jj ≤ q ∧ 0 < jj := by rw [hjj]; simp only [Nat.min_def]; split <;> omega
   obtain ⟨c1, c2, c3⟩ := hjj1
   have hne : ¬ (q = 0) := by omega
   have hI : (j : Int) ≤ (j : Int) + (q : Int) := by omega
   have hwr : IntKind.i64.wrap ((j : Int) + (jj : Int)) = (j : Int) + (jj : Int) := by rw [IntKind.wrap_i64]; omega
   have hB0 : Hid (Below w1.heap.size w1 wr.drew) := zH (Mod.below0 hm.drew)
   have hbl : Hid (Blk wr.drew w1.heap.size 4 (fillT (j + q) j).toArray) := zH hblk.drew
   replace hjp := zH hjp
   replace hblk := zH hblk
   replace hm := zH hm
   replace hjj := zH hjj
   go_wp2_with fail
   go_region_law (refine step_repT (g := w1.heap.size) (j := j) (q := q) (jj := jj) (w1 := w1) (by rfl) (.tmp 41) (.tmp 44) (by rfl) (by simp [Act.eval, Act.put]) (by simp [Act.eval, Act.put]) hjj.out hbl.out hB0.out ?_; intro w2 hg2 hbl2; replace hg2 := zH hg2; replace hbl2 := zH hbl2)
   go_wp2_with fail
   simp only [Act.put]
   go_roundg (gk - 1)
   case measure => omega
   case rel => exact ⟨j + jj, by simp, by omega, by omega, ⟨hg2.out, Mod.of_below hbl2.out⟩, by omega⟩
  ·obtain rfl : j = n := by omega
   replace hjp := zH hjp
   replace hblk := zH hblk
   replace hm := zH hm
   go_wp2_with fail
   go_ret
   refine ⟨rfl, ?_, hm.out⟩
   rw [← fillT_full]; exact hblk.out
def tvs (l : List Bool) : List Value := l.map (.bool ·)
theorem tvs_get {l : List Bool} {k : Nat} (h : k < l.length) : (tvs l)[k]? = some (.bool l[k]) := by simp [tvs, h]
def isK (known : List Bool) (k : Nat) : Bool := known.getD k false
theorem isK_out {known : List Bool} {k : Nat} (h : known.length ≤ k) : isK known k = false := by simp [isK, List.getD, List.getElem?_eq_none h]
theorem isK_in {known : List Bool} {k : Nat} (h : k < known.length) : isK known k = known[k] := by simp [isK, List.getD, h]
structure Dark (w : World) (bx : Nat) (KA : Option Addr) (kn kc : Nat) (known : List Bool) : Prop where
 box : Blk w bx 168 #[.slice KA kn kc]
 rd : Rd w 1 KA kn (tvs known)
theorem Dark.len {w : World} {bx : Nat} {KA : Option Addr} {kn kc : Nat} {known : List Bool} (h : Dark w bx KA kn kc known) : known.length = kn := by have := h.rd.1; simp [tvs] at this; exact this
theorem Dark.mod0 {w w' : World} {bx : Nat} {KA : Option Addr} {kn kc : Nat} {known : List Bool} (h : Dark w bx KA kn kc known) (hm : Mod none_ w w') : Dark w' bx KA kn kc known := ⟨h.box.mod hm (fun h => h), Rd.mod0 h.rd hm⟩
theorem dark_ok (w : World) (bx : Nat) (KA : Option Addr) (kn kc : Nat) (known : List Bool) (h : Dark w bx KA kn kc known) (k : Nat) (hkn : kn ≤ 140737488355328) :
  Calls Tryz.prog 159 #[.int .i64 (k : Int), .pointer (some ⟨bx, 0, none⟩)] w fun e w' => e = .returned (.bool (!isK known k)) ∧ w = w' := by
 have x0 := h.box.cell_ (i := 0) rfl
 have hl := h.len
 by_cases hk : k < kn
 ·obtain ⟨b, o, hA, hc⟩ := Rd.form h.rd (show 0 < kn by omega) (by omega)
  subst hA
  have hkl : k < known.length := by omega
  have x1 := hc k _ (tvs_get hkl)
  rw [isK_in hkl]
  generalize known[k] = v at *
  have hd : ¬ ((kn : Int) ≤ (k : Int)) := by omega
  clear hc
  replace h := zH h
  replace hl := zH hl
  cases v with
  | true =>
   go_enter Tryz.func159, Tryz.ntmps159
   go_wp2_with fail
   go_ret
   exact ⟨rfl, rfl⟩
  | false =>
   go_enter Tryz.func159, Tryz.ntmps159
   go_wp2_with fail
   go_ret
   exact ⟨rfl, rfl⟩
 ·rw [isK_out (by omega)]
  have hd : (kn : Int) ≤ (k : Int) := by omega
  replace h := zH h
  replace hl := zH hl
  go_enter Tryz.func159, Tryz.ntmps159
  go_wp2_with fail
  go_ret
  exact ⟨rfl, rfl⟩
theorem index_ok (w : World) (bx : Nat) (KA : Option Addr) (kn kc : Nat) (known : List Bool) (h : Dark w bx KA kn kc known) (hkn : kn ≤ 140737488355328) (B : Option Addr) (n c : Nat) (L : List Nat) (hL : RdI w B n (zs L)) (hn : n ≤ 1000000) :
  Calls Tryz.prog 207 #[.slice B n c, .func (Fn.func 159) #[] #[.pointer (some ⟨bx, 0, none⟩)]] w fun e w' => ∃ r : Int, e = .returned (.int .i64 r) ∧ (0 ≤ r ↔ ∃ k ∈ L, isK known k = false) ∧ w = w' := by
 have kd := zH (fun k => dark_ok w bx KA kn kc known h k hkn)
 have hl := hL.len
 rw [zs_len] at hl
 replace h := zH h
 replace hL := zH hL
 replace hl := zH hl
 go_enter Tryz.func207, Tryz.ntmps207
 go_wp2_with fail
 go_loopg [8] n (fun k v wr => ∃ i, v = .int .i64 (i : Nat) ∧ i + k = n ∧ (∀ x ∈ L.take i, isK known x = true) ∧ w = wr)
 case atStart => exact ⟨0, rfl, by omega, fun x hx => (by simp at hx), rfl⟩
 case round =>
  obtain ⟨i, rfl, hik, hall, rfl⟩ := hrel
  by_cases hlt : i < n
  ·obtain ⟨b, o, hB, hxl, hx⟩ := rdi_get hL.out hlt
   subst hB
   have hiL : i < L.length := by rw [hl.out]; exact hlt
   have hv : (zs L)[i] = ((L[i] : Nat) : Int) := by simp [zs]
   rw [hv] at hx
   have htk : L.take (i + 1) = L.take i ++ [L[i]] := by rw [List.take_succ_eq_append_getElem hiL]
   have hmem : L[i] ∈ L := List.getElem_mem hiL
   generalize L[i] = x at *
   have kx := zH (kd.out x)
   replace hall := zH hall
   replace htk := zH htk
   replace hmem := zH hmem
   replace hv := zH hv
   cases hkx : isK known x with
   | true =>
    rw [hkx] at kx
    have hnx : Hid (∀ y ∈ L.take (i + 1), isK known y = true) := zH (fun y hy => by
     rw [htk.out, List.mem_append] at hy
     rcases hy with hy | hy
     ·exact hall.out y hy
     ·simp at hy; rw [hy]; exact hkx)
    go_wp2_with fail
    with_reducible refine kx.out.mono ?_
    rintro e w1 ⟨rfl, rfl⟩
    dsimp only [Bool.not_true]
    go_wp2_with fail
    go_roundg (gk - 1)
    case measure => omega
    case rel => exact ⟨i + 1, by go_num, by omega, hnx.out, rfl⟩
   | false =>
    rw [hkx] at kx
    go_wp2_with fail
    with_reducible refine kx.out.mono ?_
    rintro e w1 ⟨rfl, rfl⟩
    dsimp only [Bool.not_false]
    go_wp2_with fail
    go_ret
    exact ⟨i, rfl, ⟨fun _ => ⟨x, hmem.out, hkx⟩, fun _ => by omega⟩, rfl⟩
  ·obtain rfl : i = n := by omega
   rw [List.take_of_length_le (by rw [hl.out]; exact Nat.le_refl _)] at hall
   replace hall := zH hall
   go_wp2_with fail
   go_ret
   refine ⟨-1, rfl, ⟨fun h => by omega, fun ⟨k, hk, h1⟩ => ?_⟩, rfl⟩
   rw [hall.out k hk] at h1
   cases h1
theorem contains_ok (w : World) (bx : Nat) (KA : Option Addr) (kn kc : Nat) (known : List Bool) (h : Dark w bx KA kn kc known) (hkn : kn ≤ 140737488355328) (B : Option Addr) (n c : Nat) (L : List Nat) (hL : RdI w B n (zs L)) (hn : n ≤ 1000000) :
  Calls Tryz.prog 160 #[.slice B n c, .func (Fn.func 159) #[] #[.pointer (some ⟨bx, 0, none⟩)]] w fun e w' => e = .returned (.bool (!L.all (isK known))) ∧ w = w' := by
 have ki := zH (index_ok w bx KA kn kc known h hkn B n c L hL hn)
 replace h := zH h
 replace hL := zH hL
 go_enter Tryz.func160, Tryz.ntmps160
 go_wp2_with fail
 with_reducible refine ki.out.mono ?_
 rintro e w1 ⟨r, rfl, hr, rfl⟩
 dsimp only
 replace hr := zH hr
 go_wp2_with fail
 go_ret
 refine ⟨?_, rfl⟩
 have : decide (0 ≤ r) = !L.all (isK known) := by
  rw [Bool.eq_iff_iff, decide_eq_true_iff, hr.out]
  simp
 rw [← this]
 rfl
open Classical in
noncomputable def openB (g : List (List Int)) (known : List Bool) (i : Nat) : Bool := isK known i && decide (∀ k, TC g i k → isK known k = true)
noncomputable def openL (g : List (List Int)) (known : List Bool) : List Nat := pickI (openB g known) g.length
open Classical in
theorem reach_all {g : List (List Int)} {known : List Bool} {i : Nat} : (reachL g i).all (isK known) = decide (∀ k, TC g i k → isK known k = true) := by
 rw [Bool.eq_iff_iff, decide_eq_true_iff, List.all_eq_true]
 exact ⟨fun h k hk => h k (mem_reachL.2 hk), fun h k hk => h k (mem_reachL.1 hk)⟩
theorem openB_eq {g : List (List Int)} {known : List Bool} {i : Nat} : openB g known i = (isK known i && (reachL g i).all (isK known)) := by
 unfold openB
 rw [reach_all]
theorem open_ok (w : World) (A : Option Addr) (n c : Nat) (ss : List SV) (g : List (List Int)) (hg : RdG w A n ss g) (hn : n ≤ 1000000) (KA : Option Addr) (kn kc : Nat) (known : List Bool) (hk : Rd w 1 KA kn (tvs known)) (hkn : kn ≤ 140737488355328) :
  Calls Tryz.prog 88 #[.slice A n c, .slice KA kn kc] w (ReachPost (openL g known) w) := by
 have hgl := hg.len
 have hD0 : Dark (w.alloc (.cells #[.slice KA kn kc] 168)) w.heap.size KA kn kc known := ⟨Blk.new w _ _, Rd.mod0 hk ((Mod.refl none_ w).alloc _)⟩
 have kd := zH (fun W (h : Dark W w.heap.size KA kn kc known) k => dark_ok W w.heap.size KA kn kc known h k hkn)
 have kc' := zH (fun W (h : Dark W w.heap.size KA kn kc known) B n' c L (hL : RdI W B n' (zs L)) (hn : n' ≤ 1000000) => contains_ok W w.heap.size KA kn kc known h hkn B n' c L hL hn)
 have kr := zH (fun W (hm : Mod none_ w W) f (hf : f < n) => reach_ok W A n c ss g (hg.mod0 hm) hn f hf)
 have hmf : ∀ (fn : Fn) (first cap : Array Value) (w : World), (Instr.makeFunc fn first cap).run Tryz.prog w = .ok (.func fn first cap) w := fun _ _ _ _ => rfl
 replace hg := zH hg
 replace hk := zH hk
 replace hD0 := zH hD0
 replace hgl := zH hgl
 go_enter Tryz.func88, Tryz.ntmps88
 go_wp2_with fail
 go_loopg [6, 11] n (fun k v6 v wr => ∃ i B c', v = .int .i64 (i : Nat) ∧ i + k = n ∧ v6 = .slice B (pickI (openB g known) i).length c' ∧ OwZ wr B (pickI (openB g known) i).length c' (zs (pickI (openB g known) i)) ∧ Fresh w B ∧ Mod none_ w wr ∧ Dark wr w.heap.size KA kn kc known)
 case atStart => exact ⟨0, none, 0, rfl, by omega, rfl, Ow.nil _ _ _, fun a ha => (by cases ha), (Mod.refl none_ w).alloc _, hD0.out⟩
 case round =>
  obtain ⟨i, B, c', rfl, hik, rfl, ho, hf, hm, hd⟩ := hrel
  have hpl := pickI_len (openB g known) i
  have hpx := pickI_succ (openB g known) i
  by_cases hlt : i < n
  ·have kdi := zH (kd.out wr hd i)
   have kri := zH (kr.out wr hm i hlt)
   have hob : openB g known i = (isK known i && (reachL g i).all (isK known)) := openB_eq
   generalize hpn : (pickI (openB g known) i).length = pn at *
   have hrl : (reachL g i).length ≤ n := by
    unfold reachL
    have := List.length_filter_le (fun k => @decide (TC g i k) (Classical.propDecidable _)) (List.range g.length)
    rw [List.length_range] at this
    have e := hgl.out
    omega
   cases hki : isK known i with
   | false =>
    rw [hki] at kdi hob
    rw [if_neg (by rw [hob]; simp)] at hpx
    replace ho := zH ho
    replace hf := zH hf
    replace hm := zH hm
    replace hd := zH hd
    replace hpx := zH hpx
    replace hpn := zH hpn
    replace hob := zH hob
    replace hrl := zH hrl
    go_wp2_with fail
    with_reducible refine kdi.out.mono ?_
    rintro e w1 ⟨rfl, rfl⟩
    dsimp only [Bool.not_false]
    go_wp2_with fail
    go_roundg (gk - 1)
    case measure => omega
    case rel => exact ⟨i + 1, B, c', by go_num, by omega, by rw [hpx.out, hpn.out], by rw [hpx.out, hpn.out]; exact ho.out, hf.out, hm.out, hd.out⟩
   | true =>
    rw [hki] at kdi hob
    generalize hrg : reachL g i = L at *
    replace ho := zH ho
    replace hf := zH hf
    replace hm := zH hm
    replace hd := zH hd
    replace hpx := zH hpx
    replace hpn := zH hpn
    replace hob := zH hob
    go_wp2_with fail
    with_reducible refine kdi.out.mono ?_
    rintro e w1 ⟨rfl, rfl⟩
    dsimp only [Bool.not_true]
    go_wp2_with fail
    with_reducible refine kri.out.mono ?_
    rintro e w2 ⟨B2, c2, rfl, ho2, hf2, hm2⟩
    dsimp only
    have kci := zH (kc'.out w2 (hd.out.mod0 hm2) B2 L.length c2 L (Ow.rd ho2) (by omega))
    replace ho2 := zH ho2
    replace hf2 := zH hf2
    replace hm2 := zH hm2
    cases hall : L.all (isK known) with
    | true =>
     rw [hall] at kci
     go_wp2_with fail
     with_reducible refine kci.out.mono ?_
     rintro e w3 ⟨rfl, rfl⟩
     dsimp only [Bool.not_true]
     go_wp2_with (at_builtin; go_loud (refine appZ rfl (.tmp 26) (.tmp 28) rfl rfl (Ow.mod0 ho.out (hm2.out.alloc _)) rfl (rdi_one _ _ (i : Int)) (by omega) ?_; intro B5 c5 w5 ho5 hm5 hB5; replace ho5 := zH ho5; replace hm5 := zH hm5; replace hB5 := zH hB5))
     go_roundg (gk - 1)
     case measure => omega
     case rel =>
      have hpx' := hpx.out
      rw [if_pos (by rw [hob.out, hall]; rfl)] at hpx'
      have hlen : (pickI (openB g known) (i + 1)).length = pn + 1 := by rw [hpx', List.length_append, hpn.out]; rfl
      have hm3 := (hm.out.trans hm2.out).alloc (.cells #[.int .i64 (i : Int)] 3)
      have hd3 := (hd.out.mod0 hm2.out).mod0 ((Mod.refl none_ w2).alloc (.cells #[.int .i64 (i : Int)] 3))
      have hB3 : OwZ (w2.alloc (.cells #[.int .i64 (i : Int)] 3)) B pn c' (zs (pickI (openB g known) i)) := Ow.mod0 ho.out (hm2.out.alloc _)
      refine ⟨i + 1, B5, c5, by go_num, by omega, by rw [hlen], ?_, Fresh.app hf.out hm3.size hB5.out, hm3.app hf.out hm5.out, ⟨hd3.box.mod hm5.out (Ow.ne_blk hB3 hd3.box (by decide)), ?_⟩⟩
      ·rw [hlen, hpx', zs_app]; exact ho5.out
      ·exact Rd.mod0 hk.out (hm3.app hf.out hm5.out)
    | false =>
     rw [hall] at kci
     go_wp2_with fail
     with_reducible refine kci.out.mono ?_
     rintro e w3 ⟨rfl, rfl⟩
     dsimp only [Bool.not_false]
     go_wp2_with fail
     go_roundg (gk - 1)
     case measure => omega
     case rel =>
      have hpx' := hpx.out
      rw [if_neg (by rw [hob.out, hall]; simp)] at hpx'
      exact ⟨i + 1, B, c', by go_num, by omega, by rw [hpx', hpn.out], by rw [hpx', hpn.out]; exact Ow.mod0 ho.out hm2.out, hf.out, hm.out.trans hm2.out, hd.out.mod0 hm2.out⟩
  ·obtain rfl : i = n := by omega
   have hpe : pickI (openB g known) i = openL g known := by unfold openL; rw [hgl.out]
   rw [hpe] at ho ⊢
   replace ho := zH ho
   replace hf := zH hf
   replace hm := zH hm
   replace hd := zH hd
   replace hpe := zH hpe
   go_wp2_with fail
   go_ret
   exact ⟨B, c', rfl, ho.out, hf.out, hm.out⟩
end Go.Proofs.YtfkfiokkjjnhiaaGreat.Kn
