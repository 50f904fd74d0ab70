/-
  slices.Repeat of the one number -1.
-/
import Derived.Test.YtenlpklgpcnfiaaKnM
import Derived.Test.YtenlpklgpcnfiaaShelf
import Derived.Laws.CopyOwn
import Derived.Deep.RegionLaw
import Derived.Deep.LoopGhost
namespace Go.Proofs.Ytenlpklgpcnfiaa
set_option linter.unusedVariables false
open Go.RowKit
def mOne : Value := .int .i64 (-1)
def zOne : Value := .int .i64 0
def fillL (n k : Nat) : List Value := List.replicate k mOne ++ List.replicate (n - k) zOne
theorem fill_len {n k : Nat} (h : k ≤ n) : (fillL n k).length = n := by simp [fillL]; omega
theorem fill_zero (n : Nat) : madeCells #[zOne] n = (fillL n 0).toArray := by
  apply Array.ext'
  simp [madeCells, fillL, Nat.mod_one]
  apply List.ext_getElem?
  intro i
  simp only [List.getElem?_replicate]
  by_cases h : i < n <;> simp [h]
theorem fill_full (n : Nat) : (fillL n n).toArray = rowI n fun _ => -1 := by
  apply Array.ext'
  simp [fillL, rowI, mOne]
  apply List.ext_getElem?
  intro i
  simp only [List.getElem?_replicate, List.getElem?_map]
  by_cases h : i < n <;> simp [h]
theorem fill_splice {n k j : Nat} (h : k + j ≤ n) : splice (fillL n k) k (List.replicate j mOne) = fillL n (k + j) := by
  unfold splice fillL
  have e1 : (List.replicate k mOne ++ List.replicate (n - k) zOne).take k = List.replicate k mOne := by
    rw [List.take_append_of_le_length (by simp)]; simp
  have e2 : (List.replicate k mOne ++ List.replicate (n - k) zOne).drop (k + (List.replicate j mOne).length) = List.replicate (n - (k + j)) zOne := by
    rw [List.drop_append]
    simp
    omega
  rw [e1, e2, ← List.append_assoc, List.replicate_append_replicate]
theorem fill_get {n k i : Nat} (h : i < k) : (fillL n k)[i]? = some mOne := by
  unfold fillL
  rw [List.getElem?_append_left (by simpa using h)]
  simp [h]
theorem step_rep {ops : Array Oper} {o : Oper} {a : Act} {w w1 : World} {K : Act → World → Prop} {Q : Exit → Act → World → Prop} {E : Prop} (hgd : o.guard = none) (d s : Operand)
    (ho : o.op = .call { callee := .builtin .copy, args := #[d, s], argTypes := #[28, 28] }) {g j q jj : Nat} (hd : a.eval d = .slice (some ⟨g, j, none⟩) q q) (hs : a.eval s = .slice (some ⟨g, 0, none⟩) j (j + q))
    (hjj : jj = Nat.min j q) (hb : Blk w g 3 (fillL (j + q) j).toArray) (hB : Below g w1 w)
    (h : ∀ w', Blk w' g 3 (fillL (j + q) (j + jj)).toArray → Below g w1 w' → K (a.put o.dst (goInt jj)) w') :
    if Region.wanted o (yielded ops a.tmps) = true then Oper.wp Try.prog o a w K Q else E := by
  have hl : (List.replicate jj mOne).length = jj := by simp
  have h1 : jj ≤ j ∧ jj ≤ q := by rw [hjj]; simp only [Nat.min_def]; split <;> omega
  refine step_copy_splice hgd d s 28 28 ho 3 Try.underlying28 (by kernel_rfl) (some ⟨g, j, none⟩) (some ⟨g, 0, none⟩) q q j (j + q) hd hs g j (fillL (j + q) j) 3 hb (List.replicate jj mOne) (by rw [hl]; exact hjj) (fun _ => ⟨rfl, _, rfl, fun i v hv => ?_⟩) (by rw [fill_len (by omega), hl]; omega) (fun u hu => by rw [List.eq_of_mem_replicate hu]; rfl) g w1 hB (Nat.le_refl _) ?_
  · have h2 : i < jj := by
      rcases Nat.lt_or_ge i jj with h | h
      · exact h
      · rw [List.getElem?_eq_none (by simpa using h)] at hv; cases hv
    have h3 := hb.cell_ (i := i) (v := mOne) (by simpa using fill_get (n := j + q) (show i < j by omega))
    rw [add_lit]
    have h4 : v = mOne := by rw [List.getElem?_replicate, if_pos h2] at hv; injection hv with hv; exact hv.symm
    rw [h4]; exact h3
  · rw [hl]
    intro w' hg hbl
    have hg' := hg.out
    rw [fill_splice (by omega)] at hg'
    exact h w' hg' hbl
def RepRel (w : World) (n k : Nat) (wr : World) : Prop := Blk wr w.heap.size 3 (fillL n k).toArray ∧ Mod none_ w wr
set_option maxRecDepth 100000 in
set_option maxHeartbeats 600000 in
theorem repeat_ok (w : World) (b : Nat) (d : Nat) (hb : w.cell? ⟨b, 0, none⟩ = some mOne) (n : Nat) (hn : n ≤ 1000000) :
    Calls Try.prog 25 #[.slice (some ⟨b, 0, none⟩) 1 d, .int .i64 (n : Int)] w fun e w' => e = .returned (.slice (some ⟨w.heap.size, 0, none⟩) n n) ∧ Blk w' w.heap.size 3 (rowI n fun _ => -1) ∧ Mod none_ w w' := by
  have km := Lib.hid (fun W => show Calls Try.prog 28 #[.int .u64 ((1 : Nat) : Int), .int .u64 (n : Int)] W (fun e w' => e = .returned (.tuple #[.int .u64 0, .int .u64 (n : Int)]) ∧ w' = W) from by
    have := Try.bits_Mul 1 n (by omega) (by omega) W
    rw [show 1 * n / 18446744073709551616 = 0 by omega, show 1 * n % 18446744073709551616 = n by omega] at this
    exact this)
  have hlt := World.block_lt_of_cell? w _ hb
  have hmk := fun W => make_run (P := Try.prog) W 28 3 (.int .i64 0) 8 n Try.underlying28 intinfo rfl (by omega) (by omega)
  have hw1 : IntKind.u64.wrap (n : Int) = (n : Int) := by rw [IntKind.wrap_u64]; omega
  have hw2 : IntKind.i64.wrap (n : Int) = (n : Int) := by rw [IntKind.wrap_i64]; omega
  have hsz : (Try.prog.info? 3).map (·.size) = some 1 := by kernel_rfl
  replace hb := Lib.hid hb
  go_enter Try.func25, Try.ntmps25
  go_wp2_with fail
  refine (km.out _).mono ?_
  rintro e w1 ⟨rfl, rfl⟩
  dsimp only
  obtain ⟨j0, hj0⟩ : ∃ j, j = Nat.min 1 n := ⟨_, rfl⟩
  have hj1 : j0 ≤ n ∧ j0 ≤ 1 ∧ (0 < n → 0 < j0) := by rw [hj0]; simp only [Nat.min_def]; split <;> omega
  have hone : ∀ j, ∀ u ∈ List.replicate j mOne, u.oneCell' = true := fun j u hu => by rw [List.eq_of_mem_replicate hu]; rfl
  have hblk : Hid (Blk (w1.alloc (.cells (madeCells #[.int .i64 0] n) 3)) w1.heap.size 3 (fillL n 0).toArray) := Lib.hid (by
    rw [← fill_zero]
    exact Blk.new w1 3 (madeCells #[.int .i64 0] n))
  have hbc : Hid ((w1.alloc (.cells (madeCells #[.int .i64 0] n) 3)).cell? ⟨b, 0, none⟩ = some mOne) := Lib.hid (((Mod.refl none_ w1).alloc _).cell_some hb.out (fun h => h))
  have hsrc : Hid (∀ (i : Nat) v, (List.replicate j0 mOne)[i]? = some v → (w1.alloc (.cells (madeCells #[.int .i64 0] n) 3)).cell? ((⟨b, 0, none⟩ : Addr).add i) = some v) := Lib.hid (fun i v hv => by
    have h1 : i < j0 := by
      rcases Nat.lt_or_ge i j0 with h | h
      · exact h
      · rw [List.getElem?_eq_none (by simpa using h)] at hv; cases hv
    have h2 : i = 0 := by omega
    subst h2
    rw [add_zero_, hbc.out, ← hv]
    simp [h1])
  have hB0 : Hid (Below w1.heap.size w1 (w1.alloc (.cells (madeCells #[.int .i64 0] n) 3))) := Lib.hid (Mod.below0 ((Mod.refl none_ w1).alloc _))
  have hj2 := hj1.1
  have hj3 := hj1.2.1
  have hj4 := hj1.2.2
  replace hj0 := Lib.hid hj0
  replace hj1 := Lib.hid hj1
  replace hone := Lib.hid hone
  replace hj4 := Lib.hid hj4
  go_wp2_with (show wpList _ _ _ (⟨some 33, _, _, _, _, _⟩ :: _) _ _; go_loud (refine wpList_copy_splice rfl (.tmp 31) (.tmp 32) 28 28 rfl 3 Try.underlying28 hsz (some ⟨w1.heap.size, 0, none⟩) (some ⟨b, 0, none⟩) n n 1 d rfl rfl w1.heap.size 0 (fillL n 0) 3 hblk.out (List.replicate j0 mOne) (by rw [List.length_replicate]; exact hj0.out) (fun _ => ⟨rfl, _, rfl, hsrc.out⟩) (by rw [fill_len (Nat.zero_le _)]; simp; omega) (hone.out _) w1.heap.size w1 hB0.out (Nat.le_refl _) ?_; rw [List.length_replicate]; intro w2 hg2 hbl2; replace hbl2 := Lib.hid hbl2))
  have hR2 : Hid (RepRel w1 n j0 w2) := Lib.hid ⟨by
    have h1 := hg2.out
    have h2 := fill_splice (n := n) (k := 0) (j := j0) (by omega)
    rw [h2, Nat.zero_add] at h1
    exact h1, Mod.of_below hbl2.out⟩
  clear hg2 hbl2 hB0 hsrc hbc hblk
  go_wp2_with fail
  go_loopg [8] (n) (fun k v wr => ∃ j : Nat, v = .int .i64 j ∧ j ≤ n ∧ (0 < n → 0 < j) ∧ RepRel w1 n j wr ∧ n ≤ j + k)
  case atStart => exact ⟨j0, rfl, hj2, hj4.out, hR2.out, by omega⟩
  case round =>
    obtain ⟨j, rfl, hjn, hjp, ⟨hblk, hm⟩, hk⟩ := hrel
    by_cases hlt : j < n
    · have hj0' : 0 < j := hjp (by omega)
      obtain ⟨q, rfl⟩ : ∃ q, n = j + q := ⟨n - j, by omega⟩
      obtain ⟨jj, hjj⟩ : ∃ x, x = Nat.min j q := ⟨_, rfl⟩
      have hjj1 : jj ≤ j ∧ jj ≤ q ∧ 0 < jj := by rw [hjj]; simp only [Nat.min_def]; split <;> omega
      obtain ⟨c1, c2, c3⟩ := hjj1
      have hne : ¬ (q = 0) := by omega
      have hI : (j : Int) ≤ (j : Int) + (q : Int) := by omega
      have hwr : IntKind.i64.wrap ((j : Int) + (jj : Int)) = (j : Int) + (jj : Int) := by rw [IntKind.wrap_i64]; omega
      have hB0 : Hid (Below w1.heap.size w1 wr.drew) := Lib.hid (Mod.below0 hm.drew)
      have hbl : Hid (Blk wr.drew w1.heap.size 3 (fillL (j + q) j).toArray) := Lib.hid hblk.drew
      replace hjp := Lib.hid hjp
      replace hblk := Lib.hid hblk
      replace hm := Lib.hid hm
      replace hjj := Lib.hid hjj
      go_wp2_with fail
      go_region_law (refine step_rep (g := w1.heap.size) (j := j) (q := q) (jj := jj) (w1 := w1) (by rfl) (.tmp 41) (.tmp 44) (by rfl) (by simp [Act.eval, Act.put]) (by simp [Act.eval, Act.put]) hjj.out hbl.out hB0.out ?_; intro w2 hg2 hbl2; replace hg2 := Lib.hid hg2; replace hbl2 := Lib.hid hbl2)
      go_wp2_with fail
      simp only [Act.put]
      go_roundg (gk - 1)
      case measure => omega
      case rel => exact ⟨j + jj, by simp, by omega, by omega, ⟨hg2.out, Mod.of_below hbl2.out⟩, by omega⟩
    · obtain rfl : j = n := by omega
      replace hjp := Lib.hid hjp
      replace hblk := Lib.hid hblk
      replace hm := Lib.hid hm
      go_wp2_with fail
      go_ret
      refine ⟨rfl, ?_, hm.out⟩
      rw [← fill_full]; exact hblk.out
end Go.Proofs.Ytenlpklgpcnfiaa
