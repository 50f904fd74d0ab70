import Derived.Test.YtdekehhmjehicaaGreatQp7
/-
  log.Right.
-/
namespace Go.Proofs.YtdekehhmjehicaaGreat
set_option linter.unusedVariables false
set_option linter.unusedSimpArgs false
open Go.RowKit
def slotB (r : Rc) : Bool := decide (0 ≤ r.bal ∧ r.bal ≤ 1000000 ∧ 0 ≤ r.by_ ∧ r.by_ ≤ r.bal)
def stateB (r : Rc) : Bool :=
  if r.st = 0 then decide (r.by_ = 0) && decide (r.e = en0)
  else if r.st = 1 ∨ r.st = 2 ∨ r.st = 3 then decide (r.e.deps.length ≤ 100) && rightE r.i r.e
  else false
def rightR (r : Rc) : Bool := rightI r.i && (slotB r && stateB r)
theorem rightE_none (i : Is) : rightE i ⟨od0, true, []⟩ = rightI i := by
  unfold rightE depsB
  simp
set_option maxRecDepth 100000 in
set_option maxHeartbeats 8000000 in
theorem rightR_ok (w : World) (r : Rc) (L D : SV) (hE : EnM w r.e L D) (hL : L.n ≤ 140737488355328) (hD : D.n ≤ 140737488355328) (hk : (Lit.int .i64 r.e.o.k).wf = true) (hz : ∀ l ∈ r.e.o.legs, (txt l.n).size ≤ maxLen) :
    Calls Tryz.prog 43 #[.agg #[.int .i64 r.i.r, .int .i64 r.i.n, .int .i64 r.bal, .int .i64 r.st, .int .i64 r.by_, .int .i64 r.e.o.c, .int .i64 r.e.o.s, .int .i64 r.e.o.k, .string (txt r.e.o.acct), .string (txt r.e.o.peer), .int .i64 r.e.o.sum, .slice L.a L.n L.c, .int .i64 r.e.o.per, .int .i64 r.e.o.hold, .string (txt r.e.o.note), .bool r.e.none, .slice D.a D.n D.c]] w fun e' w' => e' = .returned (.bool (rightR r)) ∧ Mod none_ w w' := by
  have k1 := Lib.hid (fun W => rightE_ok W r.i ⟨od0, true, []⟩ ⟨none, 0, 0⟩ ⟨none, 0, 0⟩ ⟨od0_mem W, Rd.none_, Nat.le_refl _⟩ (by decide) (by decide) (by decide) (fun l h => by cases h))
  rw [rightE_none] at k1
  have k2 := Lib.hid (fun W (h : Mod none_ w W) => rightE_ok W r.i r.e L D (hE.mod0 h) hL hD hk hz)
  have k3 := Lib.hid (fun W (h : Mod none_ w W) => sameE_ok W r.e en0 L D ⟨none, 0, 0⟩ ⟨none, 0, 0⟩ (hE.mod0 h) (en0_mem W) hL hD (by decide) (by decide))
  have hlen := hE.rd.len
  have hB1 : Blk ((w.alloc (.cells #[.int .i64 r.i.r, .int .i64 r.i.n, .int .i64 r.bal, .int .i64 r.st, .int .i64 r.by_, .int .i64 r.e.o.c, .int .i64 r.e.o.s, .int .i64 r.e.o.k, .string (txt r.e.o.acct), .string (txt r.e.o.peer), .int .i64 r.e.o.sum, .slice L.a L.n L.c, .int .i64 r.e.o.per, .int .i64 r.e.o.hold, .string (txt r.e.o.note), .bool r.e.none, .slice D.a D.n D.c] 77)).alloc (.cells #[.int .i64 r.bal, .int .i64 r.st, .int .i64 r.by_, .int .i64 r.e.o.c, .int .i64 r.e.o.s, .int .i64 r.e.o.k, .string (txt r.e.o.acct), .string (txt r.e.o.peer), .int .i64 r.e.o.sum, .slice L.a L.n L.c, .int .i64 r.e.o.per, .int .i64 r.e.o.hold, .string (txt r.e.o.note), .bool r.e.none, .slice D.a D.n D.c] 75)) w.heap.size 77 #[.int .i64 r.i.r, .int .i64 r.i.n, .int .i64 r.bal, .int .i64 r.st, .int .i64 r.by_, .int .i64 r.e.o.c, .int .i64 r.e.o.s, .int .i64 r.e.o.k, .string (txt r.e.o.acct), .string (txt r.e.o.peer), .int .i64 r.e.o.sum, .slice L.a L.n L.c, .int .i64 r.e.o.per, .int .i64 r.e.o.hold, .string (txt r.e.o.note), .bool r.e.none, .slice D.a D.n D.c] := (Blk.new w _ _).alloc _
  have hB2 : Blk ((w.alloc (.cells #[.int .i64 r.i.r, .int .i64 r.i.n, .int .i64 r.bal, .int .i64 r.st, .int .i64 r.by_, .int .i64 r.e.o.c, .int .i64 r.e.o.s, .int .i64 r.e.o.k, .string (txt r.e.o.acct), .string (txt r.e.o.peer), .int .i64 r.e.o.sum, .slice L.a L.n L.c, .int .i64 r.e.o.per, .int .i64 r.e.o.hold, .string (txt r.e.o.note), .bool r.e.none, .slice D.a D.n D.c] 77)).alloc (.cells #[.int .i64 r.bal, .int .i64 r.st, .int .i64 r.by_, .int .i64 r.e.o.c, .int .i64 r.e.o.s, .int .i64 r.e.o.k, .string (txt r.e.o.acct), .string (txt r.e.o.peer), .int .i64 r.e.o.sum, .slice L.a L.n L.c, .int .i64 r.e.o.per, .int .i64 r.e.o.hold, .string (txt r.e.o.note), .bool r.e.none, .slice D.a D.n D.c] 75)) (w.heap.size + 1) 75 #[.int .i64 r.bal, .int .i64 r.st, .int .i64 r.by_, .int .i64 r.e.o.c, .int .i64 r.e.o.s, .int .i64 r.e.o.k, .string (txt r.e.o.acct), .string (txt r.e.o.peer), .int .i64 r.e.o.sum, .slice L.a L.n L.c, .int .i64 r.e.o.per, .int .i64 r.e.o.hold, .string (txt r.e.o.note), .bool r.e.none, .slice D.a D.n D.c] := heap_alloc2_new w _ _
  have hm0 := ((Mod.refl none_ w).alloc (.cells #[.int .i64 r.i.r, .int .i64 r.i.n, .int .i64 r.bal, .int .i64 r.st, .int .i64 r.by_, .int .i64 r.e.o.c, .int .i64 r.e.o.s, .int .i64 r.e.o.k, .string (txt r.e.o.acct), .string (txt r.e.o.peer), .int .i64 r.e.o.sum, .slice L.a L.n L.c, .int .i64 r.e.o.per, .int .i64 r.e.o.hold, .string (txt r.e.o.note), .bool r.e.none, .slice D.a D.n D.c] 77)).alloc (.cells #[.int .i64 r.bal, .int .i64 r.st, .int .i64 r.by_, .int .i64 r.e.o.c, .int .i64 r.e.o.s, .int .i64 r.e.o.k, .string (txt r.e.o.acct), .string (txt r.e.o.peer), .int .i64 r.e.o.sum, .slice L.a L.n L.c, .int .i64 r.e.o.per, .int .i64 r.e.o.hold, .string (txt r.e.o.note), .bool r.e.none, .slice D.a D.n D.c] 75)
  have hrr : rightR r = (rightI r.i && (slotB r && stateB r)) := rfl
  have hsl : slotB r = decide (0 ≤ r.bal ∧ r.bal ≤ 1000000 ∧ 0 ≤ r.by_ ∧ r.by_ ≤ r.bal) := rfl
  have hst : stateB r = (if r.st = 0 then decide (r.by_ = 0) && decide (r.e = en0) else if r.st = 1 ∨ r.st = 2 ∨ r.st = 3 then decide (r.e.deps.length ≤ 100) && rightE r.i r.e else false) := rfl
  replace hE := Lib.hid hE
  replace hk := Lib.hid hk
  replace hz := Lib.hid hz
  replace hlen := Lib.hid hlen
  replace hB1 := Lib.hid hB1
  replace hB2 := Lib.hid hB2
  replace hm0 := Lib.hid hm0
  replace hrr := Lib.hid hrr
  replace hsl := Lib.hid hsl
  replace hst := Lib.hid hst
  go_enter Tryz.func43, Tryz.ntmps43
  go_wp2_with fail
  refine (k1.out _).mono ?_
  rintro e' w1 ⟨rfl, hm1⟩
  dsimp only
  have hB3 := hB1.out.mod hm1 (fun h => h)
  have hB4 := hB2.out.mod hm1 (fun h => h)
  replace hm1 := hm0.out.trans hm1
  have s0 : w1.cell? ⟨w.heap.size + 1, 0, none⟩ = some (.int .i64 r.bal) := hB4.cell_ rfl
  have s1 : w1.cell? ⟨w.heap.size + 1, 1, none⟩ = some (.int .i64 r.st) := hB4.cell_ rfl
  have s2 : w1.cell? ⟨w.heap.size + 1, 2, none⟩ = some (.int .i64 r.by_) := hB4.cell_ rfl
  have s3 : w1.cell? ⟨w.heap.size + 1, 3, none⟩ = some (.int .i64 r.e.o.c) := hB4.cell_ rfl
  have s4 : w1.cell? ⟨w.heap.size + 1, 4, none⟩ = some (.int .i64 r.e.o.s) := hB4.cell_ rfl
  have s5 : w1.cell? ⟨w.heap.size + 1, 5, none⟩ = some (.int .i64 r.e.o.k) := hB4.cell_ rfl
  have s6 : w1.cell? ⟨w.heap.size + 1, 6, none⟩ = some (.string (txt r.e.o.acct)) := hB4.cell_ rfl
  have s7 : w1.cell? ⟨w.heap.size + 1, 7, none⟩ = some (.string (txt r.e.o.peer)) := hB4.cell_ rfl
  have s8 : w1.cell? ⟨w.heap.size + 1, 8, none⟩ = some (.int .i64 r.e.o.sum) := hB4.cell_ rfl
  have s9 : w1.cell? ⟨w.heap.size + 1, 9, none⟩ = some (.slice L.a L.n L.c) := hB4.cell_ rfl
  have s10 : w1.cell? ⟨w.heap.size + 1, 10, none⟩ = some (.int .i64 r.e.o.per) := hB4.cell_ rfl
  have s11 : w1.cell? ⟨w.heap.size + 1, 11, none⟩ = some (.int .i64 r.e.o.hold) := hB4.cell_ rfl
  have s12 : w1.cell? ⟨w.heap.size + 1, 12, none⟩ = some (.string (txt r.e.o.note)) := hB4.cell_ rfl
  have s13 : w1.cell? ⟨w.heap.size + 1, 13, none⟩ = some (.bool r.e.none) := hB4.cell_ rfl
  have s14 : w1.cell? ⟨w.heap.size + 1, 14, none⟩ = some (.slice D.a D.n D.c) := hB4.cell_ rfl
  have p0 : w1.cell? ⟨w.heap.size, 0, none⟩ = some (.int .i64 r.i.r) := hB3.cell_ rfl
  have p1 : w1.cell? ⟨w.heap.size, 1, none⟩ = some (.int .i64 r.i.n) := hB3.cell_ rfl
  replace hB3 := Lib.hid hB3
  replace hB4 := Lib.hid hB4
  replace hm1 := Lib.hid hm1
  cases hri : rightI r.i with
  | false =>
    have hrr2 := Lib.hid (hrr.out.trans (by rw [hri]))
    replace hri := Lib.hid hri
    go_wp2_with fail
    go_ret
    exact ⟨by rw [hrr2.out] <;> rfl, hm1.out⟩
  | true =>
    have hrr1 := hrr.out.trans (by rw [hri])
    replace hri := Lib.hid hri
    by_cases hs : 0 ≤ r.bal ∧ r.bal ≤ 1000000 ∧ 0 ≤ r.by_ ∧ r.by_ ≤ r.bal
    · rw [hsl.out, decide_eq_true hs] at hrr1
      have hrr2 := Lib.hid (hrr1.trans (show (true && (true && stateB r)) = stateB r by simp))
      clear hrr1
      have d1 : ¬ r.bal < 0 := by omega
      have d2 : ¬ 1000000 < r.bal := by omega
      have d3 : ¬ r.by_ < 0 := by omega
      have d4 : ¬ r.bal < r.by_ := by omega
      replace hs := Lib.hid hs
      by_cases h0 : r.st = 0
      · have hst1 : stateB r = (decide (r.by_ = 0) && decide (r.e = en0)) := by rw [hst.out, if_pos h0]
        rw [h0] at s1
        by_cases hb : r.by_ = 0
        · rw [decide_eq_true hb] at hst1
          rw [hb] at s2
          have d5 : ¬ r.bal < 0 := d1
          rw [hb] at d3 d4
          replace h0 := Lib.hid h0
          replace hst1 := Lib.hid hst1
          replace hb := Lib.hid hb
          go_wp2_with fail
          refine (k3.out _ hm1.out).mono ?_
          rintro e' w2 ⟨rfl, hm2⟩
          dsimp only
          have hm3 := Lib.hid (hm1.out.trans hm2)
          replace hm2 := Lib.hid hm2
          go_wp2_with fail
          go_ret
          exact ⟨by rw [hrr2.out, hst1.out] <;> rfl, hm3.out⟩
        · rw [decide_eq_false hb] at hst1
          replace h0 := Lib.hid h0
          replace hst1 := Lib.hid hst1
          go_wp2_with fail
          go_ret
          exact ⟨by rw [hrr2.out, hst1.out] <;> rfl, hm1.out⟩
      by_cases hv : r.st = 1
      · have hst1 : stateB r = (decide (r.e.deps.length ≤ 100) && rightE r.i r.e) := by rw [hst.out, if_neg h0, if_pos (by omega)]
        rw [show r.st = 1 from hv] at s1
        rw [hlen.out] at hst1
        have hst1x := hst1
        clear hst1
        replace hv := Lib.hid hv
        by_cases hl : D.n ≤ 100
        · have hl2 : (D.n : Int) ≤ 100 := by omega
          rw [decide_eq_true hl] at hst1x
          go_wp2_with fail
          with_reducible refine (k2.out _ hm1.out).mono ?_
          rintro e' w2 ⟨rfl, hm2⟩
          dsimp only
          have hm3 := Lib.hid (hm1.out.trans hm2)
          replace hm2 := Lib.hid hm2
          go_wp2_with fail
          go_ret
          exact ⟨by rw [hrr2.out, hst1x] <;> rfl, hm3.out⟩
        · have hl2 : ¬ ((D.n : Int) ≤ 100) := by omega
          rw [decide_eq_false hl] at hst1x
          go_wp2_with fail
          go_ret
          exact ⟨by rw [hrr2.out, hst1x] <;> rfl, hm1.out⟩
      have hv1 := hv
      clear hv
      by_cases hv : r.st = 2
      · have hst1 : stateB r = (decide (r.e.deps.length ≤ 100) && rightE r.i r.e) := by rw [hst.out, if_neg h0, if_pos (by omega)]
        rw [show r.st = 2 from hv] at s1
        rw [hlen.out] at hst1
        have hst1x := hst1
        clear hst1
        replace hv := Lib.hid hv
        by_cases hl : D.n ≤ 100
        · have hl2 : (D.n : Int) ≤ 100 := by omega
          rw [decide_eq_true hl] at hst1x
          go_wp2_with fail
          with_reducible refine (k2.out _ hm1.out).mono ?_
          rintro e' w2 ⟨rfl, hm2⟩
          dsimp only
          have hm3 := Lib.hid (hm1.out.trans hm2)
          replace hm2 := Lib.hid hm2
          go_wp2_with fail
          go_ret
          exact ⟨by rw [hrr2.out, hst1x] <;> rfl, hm3.out⟩
        · have hl2 : ¬ ((D.n : Int) ≤ 100) := by omega
          rw [decide_eq_false hl] at hst1x
          go_wp2_with fail
          go_ret
          exact ⟨by rw [hrr2.out, hst1x] <;> rfl, hm1.out⟩
      have hv2 := hv
      clear hv
      by_cases hv : r.st = 3
      · have hst1 : stateB r = (decide (r.e.deps.length ≤ 100) && rightE r.i r.e) := by rw [hst.out, if_neg h0, if_pos (by omega)]
        rw [show r.st = 3 from hv] at s1
        rw [hlen.out] at hst1
        have hst1x := hst1
        clear hst1
        replace hv := Lib.hid hv
        by_cases hl : D.n ≤ 100
        · have hl2 : (D.n : Int) ≤ 100 := by omega
          rw [decide_eq_true hl] at hst1x
          go_wp2_with fail
          with_reducible refine (k2.out _ hm1.out).mono ?_
          rintro e' w2 ⟨rfl, hm2⟩
          dsimp only
          have hm3 := Lib.hid (hm1.out.trans hm2)
          replace hm2 := Lib.hid hm2
          go_wp2_with fail
          go_ret
          exact ⟨by rw [hrr2.out, hst1x] <;> rfl, hm3.out⟩
        · have hl2 : ¬ ((D.n : Int) ≤ 100) := by omega
          rw [decide_eq_false hl] at hst1x
          go_wp2_with fail
          go_ret
          exact ⟨by rw [hrr2.out, hst1x] <;> rfl, hm1.out⟩
      have hv3 := hv
      clear hv
      have hst1 : stateB r = false := by rw [hst.out, if_neg h0, if_neg (by omega)]
      replace hst1 := Lib.hid hst1
      go_wp2_with fail
      go_ret
      exact ⟨by rw [hrr2.out, hst1.out] <;> rfl, hm1.out⟩
    · rw [hsl.out, decide_eq_false hs] at hrr1
      have hrr2 := Lib.hid (hrr1.trans (show (true && (false && stateB r)) = false by simp))
      clear hrr1
      go_wp2_with fail
      all_goals
        first
          | (go_ret; exact ⟨by rw [hrr2.out] <;> rfl, hm1.out⟩)
          | (exfalso; omega)
end Go.Proofs.YtdekehhmjehicaaGreat
