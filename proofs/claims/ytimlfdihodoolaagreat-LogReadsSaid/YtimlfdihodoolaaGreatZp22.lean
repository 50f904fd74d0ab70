import Derived.Test.YtimlfdihodoolaaGreatZp21
import Derived.Test.YtimlfdihodoolaaGreatZp8
/-
  The reference's Right of records. No condition.
-/
namespace Go.Proofs.YtimlfdihodoolaaGreat
set_option linter.unusedVariables false
set_option linter.unusedSimpArgs false
open Go.RowKit
def outR (r : Rc) : Prop := r.i.r < 0 ∨ 6 < r.i.r ∨ r.i.n < 1 ∨ 10000 < r.i.n ∨ r.bal < 0 ∨ 1000000 < r.bal ∨ r.st < 0 ∨ 3 < r.st ∨ r.by_ < 0 ∨ r.bal < r.by_
theorem rightR_out {r : Rc} (h : outR r) : rightR r = false := by
  unfold outR at h
  unfold rightR rightI slotB stateB
  by_cases h1 : 0 ≤ r.i.r ∧ r.i.r ≤ 6 ∧ 1 ≤ r.i.n ∧ r.i.n ≤ 10000
  · by_cases h2 : 0 ≤ r.bal ∧ r.bal ≤ 1000000 ∧ 0 ≤ r.by_ ∧ r.by_ ≤ r.bal
    · rw [if_neg (by omega), if_neg (by omega)]
      simp
    · rw [decide_eq_false h2]
      simp
  · rw [decide_eq_false h1]
    rfl
theorem rightR_in {r : Rc} (h : ¬ outR r) : rightR r = if r.st = 0 then decide (r.by_ = 0) && decide (r.e = en0) else decide (r.e.deps.length ≤ 100) && rightE r.i r.e := by
  unfold outR at h
  unfold rightR rightI slotB stateB
  rw [decide_eq_true (show 0 ≤ r.i.r ∧ r.i.r ≤ 6 ∧ 1 ≤ r.i.n ∧ r.i.n ≤ 10000 by omega), decide_eq_true (show 0 ≤ r.bal ∧ r.bal ≤ 1000000 ∧ 0 ≤ r.by_ ∧ r.by_ ≤ r.bal by omega)]
  by_cases h0 : r.st = 0
  · rw [if_pos h0, if_pos h0] <;> rfl
  · rw [if_neg h0, if_neg h0, if_pos (by omega)] <;> rfl
set_option maxRecDepth 100000 in
set_option maxHeartbeats 8000000 in
theorem r15right_ok (w : World) (r : Rc) (L D : SV) (hE : EnM w r.e L D) (hL : L.n ≤ 140737488355328) (hD : D.n ≤ 140737488355328) (hz : ∀ l ∈ r.e.o.legs, (txt l.n).size ≤ maxLen) (ta : (txt r.e.o.acct).size ≤ maxLen) (tp : (txt r.e.o.peer).size ≤ maxLen) :
    Calls Tryz.prog 49 #[.agg #[.int .i64 r.i.r, .int .i64 r.i.n, .int .i64 r.bal, .int .i64 r.st, .int .i64 r.by_, .int .i64 r.e.o.c, .int .i64 r.e.o.s, .int .i64 r.e.o.k, .string (txt r.e.o.acct), .string (txt r.e.o.peer), .int .i64 r.e.o.sum, .slice L.a L.n L.c, .int .i64 r.e.o.per, .int .i64 r.e.o.hold, .string (txt r.e.o.note), .bool r.e.none, .slice D.a D.n D.c]] w fun e' w' => e' = .returned (.bool (rightR r)) ∧ Mod none_ w w' := by
  have k2 := Lib.hid (fun W (h : Mod none_ w W) => r14right_ok W r.i r.e L D (hE.mod0 h) hL hD hz ta tp)
  have k3 := Lib.hid (fun W (h : Mod none_ w W) => same14_ok W r.e en0 L D ⟨none, 0, 0⟩ ⟨none, 0, 0⟩ (hE.mod0 h) (en0_mem W) hL hD (by decide))
  have hlen := hE.rd.len
  have hB1 : Blk ((w.alloc (.cells #[.int .i64 r.i.r, .int .i64 r.i.n, .int .i64 r.bal, .int .i64 r.st, .int .i64 r.by_, .int .i64 r.e.o.c, .int .i64 r.e.o.s, .int .i64 r.e.o.k, .string (txt r.e.o.acct), .string (txt r.e.o.peer), .int .i64 r.e.o.sum, .slice L.a L.n L.c, .int .i64 r.e.o.per, .int .i64 r.e.o.hold, .string (txt r.e.o.note), .bool r.e.none, .slice D.a D.n D.c] 37)).alloc (.cells #[.int .i64 r.bal, .int .i64 r.st, .int .i64 r.by_, .int .i64 r.e.o.c, .int .i64 r.e.o.s, .int .i64 r.e.o.k, .string (txt r.e.o.acct), .string (txt r.e.o.peer), .int .i64 r.e.o.sum, .slice L.a L.n L.c, .int .i64 r.e.o.per, .int .i64 r.e.o.hold, .string (txt r.e.o.note), .bool r.e.none, .slice D.a D.n D.c] 35)) w.heap.size 37 #[.int .i64 r.i.r, .int .i64 r.i.n, .int .i64 r.bal, .int .i64 r.st, .int .i64 r.by_, .int .i64 r.e.o.c, .int .i64 r.e.o.s, .int .i64 r.e.o.k, .string (txt r.e.o.acct), .string (txt r.e.o.peer), .int .i64 r.e.o.sum, .slice L.a L.n L.c, .int .i64 r.e.o.per, .int .i64 r.e.o.hold, .string (txt r.e.o.note), .bool r.e.none, .slice D.a D.n D.c] := (Blk.new w _ _).alloc _
  have hB2 : Blk ((w.alloc (.cells #[.int .i64 r.i.r, .int .i64 r.i.n, .int .i64 r.bal, .int .i64 r.st, .int .i64 r.by_, .int .i64 r.e.o.c, .int .i64 r.e.o.s, .int .i64 r.e.o.k, .string (txt r.e.o.acct), .string (txt r.e.o.peer), .int .i64 r.e.o.sum, .slice L.a L.n L.c, .int .i64 r.e.o.per, .int .i64 r.e.o.hold, .string (txt r.e.o.note), .bool r.e.none, .slice D.a D.n D.c] 37)).alloc (.cells #[.int .i64 r.bal, .int .i64 r.st, .int .i64 r.by_, .int .i64 r.e.o.c, .int .i64 r.e.o.s, .int .i64 r.e.o.k, .string (txt r.e.o.acct), .string (txt r.e.o.peer), .int .i64 r.e.o.sum, .slice L.a L.n L.c, .int .i64 r.e.o.per, .int .i64 r.e.o.hold, .string (txt r.e.o.note), .bool r.e.none, .slice D.a D.n D.c] 35)) (w.heap.size + 1) 35 #[.int .i64 r.bal, .int .i64 r.st, .int .i64 r.by_, .int .i64 r.e.o.c, .int .i64 r.e.o.s, .int .i64 r.e.o.k, .string (txt r.e.o.acct), .string (txt r.e.o.peer), .int .i64 r.e.o.sum, .slice L.a L.n L.c, .int .i64 r.e.o.per, .int .i64 r.e.o.hold, .string (txt r.e.o.note), .bool r.e.none, .slice D.a D.n D.c] := heap_alloc2_new w _ _
  have hm0 := ((Mod.refl none_ w).alloc (.cells #[.int .i64 r.i.r, .int .i64 r.i.n, .int .i64 r.bal, .int .i64 r.st, .int .i64 r.by_, .int .i64 r.e.o.c, .int .i64 r.e.o.s, .int .i64 r.e.o.k, .string (txt r.e.o.acct), .string (txt r.e.o.peer), .int .i64 r.e.o.sum, .slice L.a L.n L.c, .int .i64 r.e.o.per, .int .i64 r.e.o.hold, .string (txt r.e.o.note), .bool r.e.none, .slice D.a D.n D.c] 37)).alloc (.cells #[.int .i64 r.bal, .int .i64 r.st, .int .i64 r.by_, .int .i64 r.e.o.c, .int .i64 r.e.o.s, .int .i64 r.e.o.k, .string (txt r.e.o.acct), .string (txt r.e.o.peer), .int .i64 r.e.o.sum, .slice L.a L.n L.c, .int .i64 r.e.o.per, .int .i64 r.e.o.hold, .string (txt r.e.o.note), .bool r.e.none, .slice D.a D.n D.c] 35)
  replace hE := Lib.hid hE
  replace hz := Lib.hid hz
  replace ta := Lib.hid ta
  replace tp := Lib.hid tp
  replace hlen := Lib.hid hlen
  replace hB1 := Lib.hid hB1
  replace hB2 := Lib.hid hB2
  replace hm0 := Lib.hid hm0
  go_enter Tryz.func49, Tryz.ntmps49
  go_upto_region 2 with fail
  obtain ⟨W0, hW0⟩ : ∃ W0, W0 = ((w.alloc (.cells #[.int .i64 r.i.r, .int .i64 r.i.n, .int .i64 r.bal, .int .i64 r.st, .int .i64 r.by_, .int .i64 r.e.o.c, .int .i64 r.e.o.s, .int .i64 r.e.o.k, .string (txt r.e.o.acct), .string (txt r.e.o.peer), .int .i64 r.e.o.sum, .slice L.a L.n L.c, .int .i64 r.e.o.per, .int .i64 r.e.o.hold, .string (txt r.e.o.note), .bool r.e.none, .slice D.a D.n D.c] 37)).alloc (.cells #[.int .i64 r.bal, .int .i64 r.st, .int .i64 r.by_, .int .i64 r.e.o.c, .int .i64 r.e.o.s, .int .i64 r.e.o.k, .string (txt r.e.o.acct), .string (txt r.e.o.peer), .int .i64 r.e.o.sum, .slice L.a L.n L.c, .int .i64 r.e.o.per, .int .i64 r.e.o.hold, .string (txt r.e.o.note), .bool r.e.none, .slice D.a D.n D.c] 35)) := ⟨_, rfl⟩
  rw [← hW0] at hB1 hB2 hm0 ⊢
  have p0 : W0.cell? ⟨w.heap.size, 0, none⟩ = some (.int .i64 r.i.r) := hB1.out.cell_ rfl
  have p1 : W0.cell? ⟨w.heap.size, 1, none⟩ = some (.int .i64 r.i.n) := hB1.out.cell_ rfl
  have s0 : W0.cell? ⟨w.heap.size + 1, 0, none⟩ = some (.int .i64 r.bal) := hB2.out.cell_ rfl
  have s1 : W0.cell? ⟨w.heap.size + 1, 1, none⟩ = some (.int .i64 r.st) := hB2.out.cell_ rfl
  have s2 : W0.cell? ⟨w.heap.size + 1, 2, none⟩ = some (.int .i64 r.by_) := hB2.out.cell_ rfl
  have s3 : W0.cell? ⟨w.heap.size + 1, 3, none⟩ = some (.int .i64 r.e.o.c) := hB2.out.cell_ rfl
  have s4 : W0.cell? ⟨w.heap.size + 1, 4, none⟩ = some (.int .i64 r.e.o.s) := hB2.out.cell_ rfl
  have s5 : W0.cell? ⟨w.heap.size + 1, 5, none⟩ = some (.int .i64 r.e.o.k) := hB2.out.cell_ rfl
  have s6 : W0.cell? ⟨w.heap.size + 1, 6, none⟩ = some (.string (txt r.e.o.acct)) := hB2.out.cell_ rfl
  have s7 : W0.cell? ⟨w.heap.size + 1, 7, none⟩ = some (.string (txt r.e.o.peer)) := hB2.out.cell_ rfl
  have s8 : W0.cell? ⟨w.heap.size + 1, 8, none⟩ = some (.int .i64 r.e.o.sum) := hB2.out.cell_ rfl
  have s9 : W0.cell? ⟨w.heap.size + 1, 9, none⟩ = some (.slice L.a L.n L.c) := hB2.out.cell_ rfl
  have s10 : W0.cell? ⟨w.heap.size + 1, 10, none⟩ = some (.int .i64 r.e.o.per) := hB2.out.cell_ rfl
  have s11 : W0.cell? ⟨w.heap.size + 1, 11, none⟩ = some (.int .i64 r.e.o.hold) := hB2.out.cell_ rfl
  have s12 : W0.cell? ⟨w.heap.size + 1, 12, none⟩ = some (.string (txt r.e.o.note)) := hB2.out.cell_ rfl
  have s13 : W0.cell? ⟨w.heap.size + 1, 13, none⟩ = some (.bool r.e.none) := hB2.out.cell_ rfl
  have s14 : W0.cell? ⟨w.heap.size + 1, 14, none⟩ = some (.slice D.a D.n D.c) := hB2.out.cell_ rfl
  replace hW0 := Lib.hid hW0
  by_cases hout : outR r
  · have hres := Lib.hid (rightR_out hout)
    unfold outR at hout
    replace hout := Lib.hid hout
    go_wp2_with fail
    all_goals
      first
        | (go_ret; exact ⟨by rw [hres.out] <;> rfl, hm0.out⟩)
        | (exfalso; have h9 := hout.out; clear hres; omega)
  · have hres := rightR_in hout
    unfold outR at hout
    have d0 : ¬ r.i.r < 0 := by omega
    have d1 : ¬ 6 < r.i.r := by omega
    have d2 : ¬ r.i.n < 1 := by omega
    have d3 : ¬ 10000 < r.i.n := by omega
    have d4 : ¬ r.bal < 0 := by omega
    have d5 : ¬ 1000000 < r.bal := by omega
    have d6 : ¬ r.st < 0 := by omega
    have d7 : ¬ 3 < r.st := by omega
    have d8 : ¬ r.by_ < 0 := by omega
    have d9 : ¬ r.bal < r.by_ := by omega
    clear hout
    by_cases hs : r.st = 0
    · rw [if_pos hs] at hres
      have k4 := k3.out W0 hm0.out
      unfold en0 od0 at k4
      dsimp only at k4
      rw [txt_nil] at k4
      rw [hs] at s1 d6 d7
      by_cases hb : r.by_ = 0
      · rw [decide_eq_true hb] at hres
        rw [hb] at s2 d8 d9
        replace hres := Lib.hid hres
        replace k4 := Lib.hid k4
        replace hb := Lib.hid hb
        replace hs := Lib.hid hs
        go_wp2_with fail
        refine k4.out.mono ?_
        rintro e' w2 ⟨rfl, hm2⟩
        dsimp only
        have hm3 := Lib.hid (hm0.out.trans hm2)
        replace hm2 := Lib.hid hm2
        go_wp2_with fail
        go_ret
        exact ⟨by rw [hres.out] <;> rfl, hm3.out⟩
      · rw [decide_eq_false hb] at hres
        replace hres := Lib.hid hres
        replace k4 := Lib.hid k4
        replace hs := Lib.hid hs
        go_wp2_with fail
        go_ret
        exact ⟨by rw [hres.out] <;> rfl, hm0.out⟩
    · rw [if_neg hs] at hres
      have k4 := Lib.hid (k2.out W0 hm0.out)
      rw [hlen.out] at hres
      by_cases hl : D.n ≤ 100
      · have hl2 : (D.n : Int) ≤ 100 := by omega
        rw [decide_eq_true hl] at hres
        replace hres := Lib.hid hres
        replace hl := Lib.hid hl
        go_wp2_with fail
        with_reducible refine k4.out.mono ?_
        rintro e' w2 ⟨rfl, hm2⟩
        dsimp only
        have hm3 := Lib.hid (hm0.out.trans hm2)
        replace hm2 := Lib.hid hm2
        go_wp2_with fail
        go_ret
        exact ⟨by rw [hres.out] <;> rfl, hm3.out⟩
      · have hl2 : ¬ ((D.n : Int) ≤ 100) := by omega
        rw [decide_eq_false hl] at hres
        replace hres := Lib.hid hres
        replace hl := Lib.hid hl
        go_wp2_with fail
        go_ret
        exact ⟨by rw [hres.out] <;> rfl, hm0.out⟩
end Go.Proofs.YtimlfdihodoolaaGreat
