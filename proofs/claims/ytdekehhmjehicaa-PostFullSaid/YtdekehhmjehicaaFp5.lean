import Derived.Test.YtdekehhmjehicaaFp4
import Derived.Deep.CutRange
import Derived.Test.YtdekehhmjehicaaFp1
/-
  log.Right.
-/
namespace Go.Proofs.Ytdekehhmjehicaa
set_option linter.unusedVariables false
set_option linter.unusedSimpArgs false
open Go.RowKit
def slotB (r : Rc) : Bool := decide (0 ≤ r.bal ∧ r.bal ≤ 1000000 ∧ 0 ≤ r.by_ ∧ r.by_ ≤ r.bal)
def stateB (r : Rc) : Bool :=
  if r.st = 0 then decide (r.by_ = 0) && decide (r.e = en0)
  else if r.st = 1 ∨ r.st = 2 ∨ r.st = 3 then decide (r.e.deps.length ≤ 100) && rightE r.i r.e
  else false
def rightR (r : Rc) : Bool := rightI r.i && (slotB r && stateB r)
theorem rightE_none (i : Is) : rightE i ⟨od0, true, []⟩ = rightI i := by
  unfold rightE depsB
  simp
set_option maxRecDepth 100000 in
set_option maxHeartbeats 8000000 in
theorem rightR_ok (w : World) (r : Rc) (L D : SV) (hE : EnM w r.e L D) (hL : L.n ≤ 140737488355328) (hD : D.n ≤ 140737488355328) (hk : (Lit.int .i64 r.e.o.k).wf = true) (hz : ∀ l ∈ r.e.o.legs, (txt l.n).size ≤ maxLen) :
    Calls Try.prog 33 #[.agg #[.int .i64 r.i.r, .int .i64 r.i.n, .int .i64 r.bal, .int .i64 r.st, .int .i64 r.by_, .int .i64 r.e.o.c, .int .i64 r.e.o.s, .int .i64 r.e.o.k, .string (txt r.e.o.acct), .string (txt r.e.o.peer), .int .i64 r.e.o.sum, .slice L.a L.n L.c, .int .i64 r.e.o.per, .int .i64 r.e.o.hold, .string (txt r.e.o.note), .bool r.e.none, .slice D.a D.n D.c]] w fun e' w' => e' = .returned (.bool (rightR r)) ∧ Mod none_ w w' := by
  have k1 := Lib.hid (fun W => rightE_ok W r.i ⟨od0, true, []⟩ ⟨none, 0, 0⟩ ⟨none, 0, 0⟩ ⟨od0_mem W, Rd.none_, Nat.le_refl _⟩ (by decide) (by decide) (by decide) (fun l h => by cases h))
  rw [rightE_none] at k1
  have k2 := Lib.hid (fun W (h : Mod none_ w W) => rightE_ok W r.i r.e L D (hE.mod0 h) hL hD hk hz)
  have k3 := Lib.hid (fun W (h : Mod none_ w W) => sameE_ok W r.e en0 L D ⟨none, 0, 0⟩ ⟨none, 0, 0⟩ (hE.mod0 h) (en0_mem W) hL hD (by decide) (by decide))
  have hlen := hE.rd.len
  have hB1 : Blk ((w.alloc (.cells #[.int .i64 r.i.r, .int .i64 r.i.n, .int .i64 r.bal, .int .i64 r.st, .int .i64 r.by_, .int .i64 r.e.o.c, .int .i64 r.e.o.s, .int .i64 r.e.o.k, .string (txt r.e.o.acct), .string (txt r.e.o.peer), .int .i64 r.e.o.sum, .slice L.a L.n L.c, .int .i64 r.e.o.per, .int .i64 r.e.o.hold, .string (txt r.e.o.note), .bool r.e.none, .slice D.a D.n D.c] 65)).alloc (.cells #[.int .i64 r.bal, .int .i64 r.st, .int .i64 r.by_, .int .i64 r.e.o.c, .int .i64 r.e.o.s, .int .i64 r.e.o.k, .string (txt r.e.o.acct), .string (txt r.e.o.peer), .int .i64 r.e.o.sum, .slice L.a L.n L.c, .int .i64 r.e.o.per, .int .i64 r.e.o.hold, .string (txt r.e.o.note), .bool r.e.none, .slice D.a D.n D.c] 63)) w.heap.size 65 #[.int .i64 r.i.r, .int .i64 r.i.n, .int .i64 r.bal, .int .i64 r.st, .int .i64 r.by_, .int .i64 r.e.o.c, .int .i64 r.e.o.s, .int .i64 r.e.o.k, .string (txt r.e.o.acct), .string (txt r.e.o.peer), .int .i64 r.e.o.sum, .slice L.a L.n L.c, .int .i64 r.e.o.per, .int .i64 r.e.o.hold, .string (txt r.e.o.note), .bool r.e.none, .slice D.a D.n D.c] := (Blk.new w _ _).alloc _
  have hB2 : Blk ((w.alloc (.cells #[.int .i64 r.i.r, .int .i64 r.i.n, .int .i64 r.bal, .int .i64 r.st, .int .i64 r.by_, .int .i64 r.e.o.c, .int .i64 r.e.o.s, .int .i64 r.e.o.k, .string (txt r.e.o.acct), .string (txt r.e.o.peer), .int .i64 r.e.o.sum, .slice L.a L.n L.c, .int .i64 r.e.o.per, .int .i64 r.e.o.hold, .string (txt r.e.o.note), .bool r.e.none, .slice D.a D.n D.c] 65)).alloc (.cells #[.int .i64 r.bal, .int .i64 r.st, .int .i64 r.by_, .int .i64 r.e.o.c, .int .i64 r.e.o.s, .int .i64 r.e.o.k, .string (txt r.e.o.acct), .string (txt r.e.o.peer), .int .i64 r.e.o.sum, .slice L.a L.n L.c, .int .i64 r.e.o.per, .int .i64 r.e.o.hold, .string (txt r.e.o.note), .bool r.e.none, .slice D.a D.n D.c] 63)) (w.heap.size + 1) 63 #[.int .i64 r.bal, .int .i64 r.st, .int .i64 r.by_, .int .i64 r.e.o.c, .int .i64 r.e.o.s, .int .i64 r.e.o.k, .string (txt r.e.o.acct), .string (txt r.e.o.peer), .int .i64 r.e.o.sum, .slice L.a L.n L.c, .int .i64 r.e.o.per, .int .i64 r.e.o.hold, .string (txt r.e.o.note), .bool r.e.none, .slice D.a D.n D.c] := heap_alloc2_new w _ _
  have hm0 := ((Mod.refl none_ w).alloc (.cells #[.int .i64 r.i.r, .int .i64 r.i.n, .int .i64 r.bal, .int .i64 r.st, .int .i64 r.by_, .int .i64 r.e.o.c, .int .i64 r.e.o.s, .int .i64 r.e.o.k, .string (txt r.e.o.acct), .string (txt r.e.o.peer), .int .i64 r.e.o.sum, .slice L.a L.n L.c, .int .i64 r.e.o.per, .int .i64 r.e.o.hold, .string (txt r.e.o.note), .bool r.e.none, .slice D.a D.n D.c] 65)).alloc (.cells #[.int .i64 r.bal, .int .i64 r.st, .int .i64 r.by_, .int .i64 r.e.o.c, .int .i64 r.e.o.s, .int .i64 r.e.o.k, .string (txt r.e.o.acct), .string (txt r.e.o.peer), .int .i64 r.e.o.sum, .slice L.a L.n L.c, .int .i64 r.e.o.per, .int .i64 r.e.o.hold, .string (txt r.e.o.note), .bool r.e.none, .slice D.a D.n D.c] 63)
  have hrr : rightR r = (rightI r.i && (slotB r && stateB r)) := rfl
  have hsl : slotB r = decide (0 ≤ r.bal ∧ r.bal ≤ 1000000 ∧ 0 ≤ r.by_ ∧ r.by_ ≤ r.bal) := rfl
  have hst : stateB r = (if r.st = 0 then decide (r.by_ = 0) && decide (r.e = en0) else if r.st = 1 ∨ r.st = 2 ∨ r.st = 3 then decide (r.e.deps.length ≤ 100) && rightE r.i r.e else false) := rfl
  replace hE := Lib.hid hE
  replace hk := Lib.hid hk
  replace hz := Lib.hid hz
  replace hlen := Lib.hid hlen
  replace hB1 := Lib.hid hB1
  replace hB2 := Lib.hid hB2
  replace hm0 := Lib.hid hm0
  replace hrr := Lib.hid hrr
  replace hsl := Lib.hid hsl
  replace hst := Lib.hid hst
  go_enter Try.func33, Try.ntmps33
  go_wp2_with fail
  refine (k1.out _).mono ?_
  rintro e' w1 ⟨rfl, hm1⟩
  dsimp only
  have hB3 := hB1.out.mod hm1 (fun h => h)
  have hB4 := hB2.out.mod hm1 (fun h => h)
  replace hm1 := hm0.out.trans hm1
  have s0 : w1.cell? ⟨w.heap.size + 1, 0, none⟩ = some (.int .i64 r.bal) := hB4.cell_ rfl
  have s1 : w1.cell? ⟨w.heap.size + 1, 1, none⟩ = some (.int .i64 r.st) := hB4.cell_ rfl
  have s2 : w1.cell? ⟨w.heap.size + 1, 2, none⟩ = some (.int .i64 r.by_) := hB4.cell_ rfl
  have s3 : w1.cell? ⟨w.heap.size + 1, 3, none⟩ = some (.int .i64 r.e.o.c) := hB4.cell_ rfl
  have s4 : w1.cell? ⟨w.heap.size + 1, 4, none⟩ = some (.int .i64 r.e.o.s) := hB4.cell_ rfl
  have s5 : w1.cell? ⟨w.heap.size + 1, 5, none⟩ = some (.int .i64 r.e.o.k) := hB4.cell_ rfl
  have s6 : w1.cell? ⟨w.heap.size + 1, 6, none⟩ = some (.string (txt r.e.o.acct)) := hB4.cell_ rfl
  have s7 : w1.cell? ⟨w.heap.size + 1, 7, none⟩ = some (.string (txt r.e.o.peer)) := hB4.cell_ rfl
  have s8 : w1.cell? ⟨w.heap.size + 1, 8, none⟩ = some (.int .i64 r.e.o.sum) := hB4.cell_ rfl
  have s9 : w1.cell? ⟨w.heap.size + 1, 9, none⟩ = some (.slice L.a L.n L.c) := hB4.cell_ rfl
  have s10 : w1.cell? ⟨w.heap.size + 1, 10, none⟩ = some (.int .i64 r.e.o.per) := hB4.cell_ rfl
  have s11 : w1.cell? ⟨w.heap.size + 1, 11, none⟩ = some (.int .i64 r.e.o.hold) := hB4.cell_ rfl
  have s12 : w1.cell? ⟨w.heap.size + 1, 12, none⟩ = some (.string (txt r.e.o.note)) := hB4.cell_ rfl
  have s13 : w1.cell? ⟨w.heap.size + 1, 13, none⟩ = some (.bool r.e.none) := hB4.cell_ rfl
  have s14 : w1.cell? ⟨w.heap.size + 1, 14, none⟩ = some (.slice D.a D.n D.c) := hB4.cell_ rfl
  have p0 : w1.cell? ⟨w.heap.size, 0, none⟩ = some (.int .i64 r.i.r) := hB3.cell_ rfl
  have p1 : w1.cell? ⟨w.heap.size, 1, none⟩ = some (.int .i64 r.i.n) := hB3.cell_ rfl
  replace hB3 := Lib.hid hB3
  replace hB4 := Lib.hid hB4
  replace hm1 := Lib.hid hm1
  cases hri : rightI r.i with
  | false =>
    have hrr2 := Lib.hid (hrr.out.trans (by rw [hri]))
    replace hri := Lib.hid hri
    go_wp2_with fail
    go_ret
    exact ⟨by rw [hrr2.out]; rfl, hm1.out⟩
  | true =>
    have hrr1 := hrr.out.trans (by rw [hri])
    replace hri := Lib.hid hri
    by_cases hs : 0 ≤ r.bal ∧ r.bal ≤ 1000000 ∧ 0 ≤ r.by_ ∧ r.by_ ≤ r.bal
    · rw [hsl.out, decide_eq_true hs] at hrr1
      have hrr2 := Lib.hid (hrr1.trans (show (true && (true && stateB r)) = stateB r by simp))
      clear hrr1
      have d1 : ¬ r.bal < 0 := by omega
      have d2 : ¬ 1000000 < r.bal := by omega
      have d3 : ¬ r.by_ < 0 := by omega
      have d4 : ¬ r.bal < r.by_ := by omega
      replace hs := Lib.hid hs
      by_cases h0 : r.st = 0
      · have hst1 : stateB r = (decide (r.by_ = 0) && decide (r.e = en0)) := by rw [hst.out, if_pos h0]
        rw [h0] at s1
        by_cases hb : r.by_ = 0
        · rw [decide_eq_true hb] at hst1
          rw [hb] at s2
          have d5 : ¬ r.bal < 0 := d1
          rw [hb] at d3 d4
          replace h0 := Lib.hid h0
          replace hst1 := Lib.hid hst1
          replace hb := Lib.hid hb
          go_wp2_with fail
          refine (k3.out _ hm1.out).mono ?_
          rintro e' w2 ⟨rfl, hm2⟩
          dsimp only
          have hm3 := Lib.hid (hm1.out.trans hm2)
          replace hm2 := Lib.hid hm2
          go_wp2_with fail
          go_ret
          exact ⟨by rw [hrr2.out, hst1.out]; rfl, hm3.out⟩
        · rw [decide_eq_false hb] at hst1
          replace h0 := Lib.hid h0
          replace hst1 := Lib.hid hst1
          go_wp2_with fail
          go_ret
          exact ⟨by rw [hrr2.out, hst1.out]; rfl, hm1.out⟩
      by_cases hv : r.st = 1
      · have hst1 : stateB r = (decide (r.e.deps.length ≤ 100) && rightE r.i r.e) := by rw [hst.out, if_neg h0, if_pos (by omega)]
        rw [show r.st = 1 from hv] at s1
        rw [hlen.out] at hst1
        have hst1x := hst1
        clear hst1
        replace hv := Lib.hid hv
        by_cases hl : D.n ≤ 100
        · have hl2 : (D.n : Int) ≤ 100 := by omega
          rw [decide_eq_true hl] at hst1x
          go_wp2_with fail
          with_reducible refine (k2.out _ hm1.out).mono ?_
          rintro e' w2 ⟨rfl, hm2⟩
          dsimp only
          have hm3 := Lib.hid (hm1.out.trans hm2)
          replace hm2 := Lib.hid hm2
          go_wp2_with fail
          go_ret
          exact ⟨by rw [hrr2.out, hst1x]; rfl, hm3.out⟩
        · have hl2 : ¬ ((D.n : Int) ≤ 100) := by omega
          rw [decide_eq_false hl] at hst1x
          go_wp2_with fail
          go_ret
          exact ⟨by rw [hrr2.out, hst1x]; rfl, hm1.out⟩
      have hv1 := hv
      clear hv
      by_cases hv : r.st = 2
      · have hst1 : stateB r = (decide (r.e.deps.length ≤ 100) && rightE r.i r.e) := by rw [hst.out, if_neg h0, if_pos (by omega)]
        rw [show r.st = 2 from hv] at s1
        rw [hlen.out] at hst1
        have hst1x := hst1
        clear hst1
        replace hv := Lib.hid hv
        by_cases hl : D.n ≤ 100
        · have hl2 : (D.n : Int) ≤ 100 := by omega
          rw [decide_eq_true hl] at hst1x
          go_wp2_with fail
          with_reducible refine (k2.out _ hm1.out).mono ?_
          rintro e' w2 ⟨rfl, hm2⟩
          dsimp only
          have hm3 := Lib.hid (hm1.out.trans hm2)
          replace hm2 := Lib.hid hm2
          go_wp2_with fail
          go_ret
          exact ⟨by rw [hrr2.out, hst1x]; rfl, hm3.out⟩
        · have hl2 : ¬ ((D.n : Int) ≤ 100) := by omega
          rw [decide_eq_false hl] at hst1x
          go_wp2_with fail
          go_ret
          exact ⟨by rw [hrr2.out, hst1x]; rfl, hm1.out⟩
      have hv2 := hv
      clear hv
      by_cases hv : r.st = 3
      · have hst1 : stateB r = (decide (r.e.deps.length ≤ 100) && rightE r.i r.e) := by rw [hst.out, if_neg h0, if_pos (by omega)]
        rw [show r.st = 3 from hv] at s1
        rw [hlen.out] at hst1
        have hst1x := hst1
        clear hst1
        replace hv := Lib.hid hv
        by_cases hl : D.n ≤ 100
        · have hl2 : (D.n : Int) ≤ 100 := by omega
          rw [decide_eq_true hl] at hst1x
          go_wp2_with fail
          with_reducible refine (k2.out _ hm1.out).mono ?_
          rintro e' w2 ⟨rfl, hm2⟩
          dsimp only
          have hm3 := Lib.hid (hm1.out.trans hm2)
          replace hm2 := Lib.hid hm2
          go_wp2_with fail
          go_ret
          exact ⟨by rw [hrr2.out, hst1x]; rfl, hm3.out⟩
        · have hl2 : ¬ ((D.n : Int) ≤ 100) := by omega
          rw [decide_eq_false hl] at hst1x
          go_wp2_with fail
          go_ret
          exact ⟨by rw [hrr2.out, hst1x]; rfl, hm1.out⟩
      have hv3 := hv
      clear hv
      have hst1 : stateB r = false := by rw [hst.out, if_neg h0, if_neg (by omega)]
      replace hst1 := Lib.hid hst1
      go_wp2_with fail
      go_ret
      exact ⟨by rw [hrr2.out, hst1.out]; rfl, hm1.out⟩
    · rw [hsl.out, decide_eq_false hs] at hrr1
      have hrr2 := Lib.hid (hrr1.trans (show (true && (false && stateB r)) = false by simp))
      clear hrr1
      go_wp2_with fail
      all_goals
        first
          | (go_ret; exact ⟨by rw [hrr2.out]; rfl, hm1.out⟩)
          | (exfalso; omega)
end Go.Proofs.Ytdekehhmjehicaa
/-
  post.Right.
-/
namespace Go.Proofs.Ytdekehhmjehicaa
set_option linter.unusedVariables false
set_option linter.unusedSimpArgs false
open Go.RowKit
theorem record_size : (Try.prog.info? 65).map (·.size) = some 17 := by kernel_rfl
theorem ret_record {fn : Func} {p : Tmp} (h : fn.results = #[.cell p 65]) {a : Act} {w : World} {R : Ending → World → Prop} (g : Nat) (cs : Array Value) (hp : a.tmps.getD p undef = .pointer (some ⟨g, 0, none⟩))
    (hg : Blk w g 65 cs) (hs : cs.size = 17) (hd : a.defers = []) (hR : R (.returned (.agg cs)) w) : bodyPost Try.prog fn R .ret a w :=
  bodyPost_ret (results_cell_row h a.tmps w g _ cs _ _ hp hg Try.underlying65 rfl (by rw [hs]; exact record_size)) hd hR
set_option maxRecDepth 100000 in
theorem whole_ok (w : World) (m : Mg) (L D : SV) : Calls Try.prog 23 #[.agg #[.int .i64 m.frm, .int .i64 m.to, .int .i64 m.kind, .int .i64 m.r.i.r, .int .i64 m.r.i.n, .int .i64 m.r.bal, .int .i64 m.r.st, .int .i64 m.r.by_, .int .i64 m.r.e.o.c, .int .i64 m.r.e.o.s, .int .i64 m.r.e.o.k, .string (txt m.r.e.o.acct), .string (txt m.r.e.o.peer), .int .i64 m.r.e.o.sum, .slice L.a L.n L.c, .int .i64 m.r.e.o.per, .int .i64 m.r.e.o.hold, .string (txt m.r.e.o.note), .bool m.r.e.none, .slice D.a D.n D.c]] w fun e' w' => e' = .returned (.agg #[.int .i64 m.r.i.r, .int .i64 m.r.i.n, .int .i64 m.r.bal, .int .i64 m.r.st, .int .i64 m.r.by_, .int .i64 m.r.e.o.c, .int .i64 m.r.e.o.s, .int .i64 m.r.e.o.k, .string (txt m.r.e.o.acct), .string (txt m.r.e.o.peer), .int .i64 m.r.e.o.sum, .slice L.a L.n L.c, .int .i64 m.r.e.o.per, .int .i64 m.r.e.o.hold, .string (txt m.r.e.o.note), .bool m.r.e.none, .slice D.a D.n D.c]) ∧ Mod none_ w w' := by
  go_enter Try.func23, Try.ntmps23
  go_wp2_with fail
  exact ret_record rfl (w.heap.size + 1) _ rfl (heap_alloc2_new _ _ _) rfl rfl ⟨rfl, ((Mod.refl none_ w).alloc _).alloc _⟩
def bareR (r : Rc) : Rc := ⟨r.i, 0, 3, 0, r.e⟩
set_option maxRecDepth 100000 in
theorem bareM_ok (w : World) (m : Mg) (L D : SV) : Calls Try.prog 27 #[.agg #[.int .i64 m.frm, .int .i64 m.to, .int .i64 m.kind, .int .i64 m.r.i.r, .int .i64 m.r.i.n, .int .i64 m.r.bal, .int .i64 m.r.st, .int .i64 m.r.by_, .int .i64 m.r.e.o.c, .int .i64 m.r.e.o.s, .int .i64 m.r.e.o.k, .string (txt m.r.e.o.acct), .string (txt m.r.e.o.peer), .int .i64 m.r.e.o.sum, .slice L.a L.n L.c, .int .i64 m.r.e.o.per, .int .i64 m.r.e.o.hold, .string (txt m.r.e.o.note), .bool m.r.e.none, .slice D.a D.n D.c]] w fun e' w' => e' = .returned (.agg #[.int .i64 m.r.i.r, .int .i64 m.r.i.n, .int .i64 0, .int .i64 3, .int .i64 0, .int .i64 m.r.e.o.c, .int .i64 m.r.e.o.s, .int .i64 m.r.e.o.k, .string (txt m.r.e.o.acct), .string (txt m.r.e.o.peer), .int .i64 m.r.e.o.sum, .slice L.a L.n L.c, .int .i64 m.r.e.o.per, .int .i64 m.r.e.o.hold, .string (txt m.r.e.o.note), .bool m.r.e.none, .slice D.a D.n D.c]) ∧ Mod none_ w w' := by
  go_enter Try.func27, Try.ntmps27
  go_wp2_with fail
  exact ret_record rfl (w.heap.size + 1) _ rfl (heap_alloc2_new _ _ _) rfl rfl ⟨rfl, ((Mod.refl none_ w).alloc _).alloc _⟩
def endsB (m : Mg) : Bool := decide (0 ≤ m.frm ∧ m.frm ≤ 6 ∧ 0 ≤ m.to ∧ m.to ≤ 6 ∧ ¬ m.frm = m.to)
def kindMB (m : Mg) : Bool := decide (1 ≤ m.kind ∧ m.kind ≤ 9)
def plainB (m : Mg) : Bool := decide (m.r.st = 0 ∧ m.r.by_ = 0 ∧ 0 ≤ m.r.bal ∧ m.r.bal ≤ 1000000)
def rightM (m : Mg) : Bool := endsB m && (kindMB m && (rightR m.r || (plainB m && rightR (bareR m.r))))
set_option maxRecDepth 100000 in
set_option maxHeartbeats 8000000 in
theorem rightM_e1 (w : World) (f t kd ir jn bl st by_ : Int) (e : En) (L D : SV) (c1 : ¬ (0 ≤ f)) :
    Calls Try.prog 12 #[.agg #[.int .i64 f, .int .i64 t, .int .i64 kd, .int .i64 ir, .int .i64 jn, .int .i64 bl, .int .i64 st, .int .i64 by_, .int .i64 e.o.c, .int .i64 e.o.s, .int .i64 e.o.k, .string (txt e.o.acct), .string (txt e.o.peer), .int .i64 e.o.sum, .slice L.a L.n L.c, .int .i64 e.o.per, .int .i64 e.o.hold, .string (txt e.o.note), .bool e.none, .slice D.a D.n D.c]] w fun e' w' => e' = .returned (.bool false) ∧ Mod none_ w w' := by
  have hm0 := Lib.hid ((Mod.refl none_ w).alloc (.cells #[.int .i64 f, .int .i64 t, .int .i64 kd, .int .i64 ir, .int .i64 jn, .int .i64 bl, .int .i64 st, .int .i64 by_, .int .i64 e.o.c, .int .i64 e.o.s, .int .i64 e.o.k, .string (txt e.o.acct), .string (txt e.o.peer), .int .i64 e.o.sum, .slice L.a L.n L.c, .int .i64 e.o.per, .int .i64 e.o.hold, .string (txt e.o.note), .bool e.none, .slice D.a D.n D.c] 40))
  go_enter Try.func12, Try.ntmps12
  go_wp2_with fail
  go_ret
  exact ⟨rfl, hm0.out⟩
set_option maxRecDepth 100000 in
set_option maxHeartbeats 8000000 in
theorem rightM_e2 (w : World) (f t kd ir jn bl st by_ : Int) (e : En) (L D : SV) (c1 : 0 ≤ f) (c2 : ¬ f ≤ 6) :
    Calls Try.prog 12 #[.agg #[.int .i64 f, .int .i64 t, .int .i64 kd, .int .i64 ir, .int .i64 jn, .int .i64 bl, .int .i64 st, .int .i64 by_, .int .i64 e.o.c, .int .i64 e.o.s, .int .i64 e.o.k, .string (txt e.o.acct), .string (txt e.o.peer), .int .i64 e.o.sum, .slice L.a L.n L.c, .int .i64 e.o.per, .int .i64 e.o.hold, .string (txt e.o.note), .bool e.none, .slice D.a D.n D.c]] w fun e' w' => e' = .returned (.bool false) ∧ Mod none_ w w' := by
  have hm0 := Lib.hid ((Mod.refl none_ w).alloc (.cells #[.int .i64 f, .int .i64 t, .int .i64 kd, .int .i64 ir, .int .i64 jn, .int .i64 bl, .int .i64 st, .int .i64 by_, .int .i64 e.o.c, .int .i64 e.o.s, .int .i64 e.o.k, .string (txt e.o.acct), .string (txt e.o.peer), .int .i64 e.o.sum, .slice L.a L.n L.c, .int .i64 e.o.per, .int .i64 e.o.hold, .string (txt e.o.note), .bool e.none, .slice D.a D.n D.c] 40))
  go_enter Try.func12, Try.ntmps12
  go_wp2_with fail
  go_ret
  exact ⟨rfl, hm0.out⟩
set_option maxRecDepth 100000 in
set_option maxHeartbeats 8000000 in
theorem rightM_e3 (w : World) (f t kd ir jn bl st by_ : Int) (e : En) (L D : SV) (c1 : 0 ≤ f) (c2 : f ≤ 6) (c3 : ¬ 0 ≤ t) :
    Calls Try.prog 12 #[.agg #[.int .i64 f, .int .i64 t, .int .i64 kd, .int .i64 ir, .int .i64 jn, .int .i64 bl, .int .i64 st, .int .i64 by_, .int .i64 e.o.c, .int .i64 e.o.s, .int .i64 e.o.k, .string (txt e.o.acct), .string (txt e.o.peer), .int .i64 e.o.sum, .slice L.a L.n L.c, .int .i64 e.o.per, .int .i64 e.o.hold, .string (txt e.o.note), .bool e.none, .slice D.a D.n D.c]] w fun e' w' => e' = .returned (.bool false) ∧ Mod none_ w w' := by
  have hm0 := Lib.hid ((Mod.refl none_ w).alloc (.cells #[.int .i64 f, .int .i64 t, .int .i64 kd, .int .i64 ir, .int .i64 jn, .int .i64 bl, .int .i64 st, .int .i64 by_, .int .i64 e.o.c, .int .i64 e.o.s, .int .i64 e.o.k, .string (txt e.o.acct), .string (txt e.o.peer), .int .i64 e.o.sum, .slice L.a L.n L.c, .int .i64 e.o.per, .int .i64 e.o.hold, .string (txt e.o.note), .bool e.none, .slice D.a D.n D.c] 40))
  go_enter Try.func12, Try.ntmps12
  go_wp2_with fail
  go_ret
  exact ⟨rfl, hm0.out⟩
set_option maxRecDepth 100000 in
set_option maxHeartbeats 8000000 in
theorem rightM_e4 (w : World) (f t kd ir jn bl st by_ : Int) (e : En) (L D : SV) (c1 : 0 ≤ f) (c2 : f ≤ 6) (c3 : 0 ≤ t) (c4 : ¬ t ≤ 6) :
    Calls Try.prog 12 #[.agg #[.int .i64 f, .int .i64 t, .int .i64 kd, .int .i64 ir, .int .i64 jn, .int .i64 bl, .int .i64 st, .int .i64 by_, .int .i64 e.o.c, .int .i64 e.o.s, .int .i64 e.o.k, .string (txt e.o.acct), .string (txt e.o.peer), .int .i64 e.o.sum, .slice L.a L.n L.c, .int .i64 e.o.per, .int .i64 e.o.hold, .string (txt e.o.note), .bool e.none, .slice D.a D.n D.c]] w fun e' w' => e' = .returned (.bool false) ∧ Mod none_ w w' := by
  have hm0 := Lib.hid ((Mod.refl none_ w).alloc (.cells #[.int .i64 f, .int .i64 t, .int .i64 kd, .int .i64 ir, .int .i64 jn, .int .i64 bl, .int .i64 st, .int .i64 by_, .int .i64 e.o.c, .int .i64 e.o.s, .int .i64 e.o.k, .string (txt e.o.acct), .string (txt e.o.peer), .int .i64 e.o.sum, .slice L.a L.n L.c, .int .i64 e.o.per, .int .i64 e.o.hold, .string (txt e.o.note), .bool e.none, .slice D.a D.n D.c] 40))
  go_enter Try.func12, Try.ntmps12
  go_wp2_with fail
  go_ret
  exact ⟨rfl, hm0.out⟩
set_option maxRecDepth 100000 in
set_option maxHeartbeats 8000000 in
theorem rightM_e5 (w : World) (f t kd ir jn bl st by_ : Int) (e : En) (L D : SV) (c1 : 0 ≤ f) (c2 : f ≤ 6) (c5 : f = t) :
    Calls Try.prog 12 #[.agg #[.int .i64 f, .int .i64 t, .int .i64 kd, .int .i64 ir, .int .i64 jn, .int .i64 bl, .int .i64 st, .int .i64 by_, .int .i64 e.o.c, .int .i64 e.o.s, .int .i64 e.o.k, .string (txt e.o.acct), .string (txt e.o.peer), .int .i64 e.o.sum, .slice L.a L.n L.c, .int .i64 e.o.per, .int .i64 e.o.hold, .string (txt e.o.note), .bool e.none, .slice D.a D.n D.c]] w fun e' w' => e' = .returned (.bool false) ∧ Mod none_ w w' := by
  subst c5
  have hm0 := Lib.hid ((Mod.refl none_ w).alloc (.cells #[.int .i64 f, .int .i64 f, .int .i64 kd, .int .i64 ir, .int .i64 jn, .int .i64 bl, .int .i64 st, .int .i64 by_, .int .i64 e.o.c, .int .i64 e.o.s, .int .i64 e.o.k, .string (txt e.o.acct), .string (txt e.o.peer), .int .i64 e.o.sum, .slice L.a L.n L.c, .int .i64 e.o.per, .int .i64 e.o.hold, .string (txt e.o.note), .bool e.none, .slice D.a D.n D.c] 40))
  have d8 : (f == f) = true := by simp
  have d9 : (f != f) = false := by simp
  go_enter Try.func12, Try.ntmps12
  go_wp2_with fail
  go_ret
  exact ⟨rfl, hm0.out⟩
set_option maxRecDepth 100000 in
set_option maxHeartbeats 8000000 in
theorem rightM_k1 (w : World) (f t kd ir jn bl st by_ : Int) (e : En) (L D : SV) (c1 : 0 ≤ f) (c2 : f ≤ 6) (c3 : 0 ≤ t) (c4 : t ≤ 6) (c5 : ¬ f = t) (c6 : kd < 1) :
    Calls Try.prog 12 #[.agg #[.int .i64 f, .int .i64 t, .int .i64 kd, .int .i64 ir, .int .i64 jn, .int .i64 bl, .int .i64 st, .int .i64 by_, .int .i64 e.o.c, .int .i64 e.o.s, .int .i64 e.o.k, .string (txt e.o.acct), .string (txt e.o.peer), .int .i64 e.o.sum, .slice L.a L.n L.c, .int .i64 e.o.per, .int .i64 e.o.hold, .string (txt e.o.note), .bool e.none, .slice D.a D.n D.c]] w fun e' w' => e' = .returned (.bool false) ∧ Mod none_ w w' := by
  have d8 : (f == t) = false := by simp; omega
  have d9 : (f != t) = true := by simp; omega
  have hm0 := Lib.hid ((Mod.refl none_ w).alloc (.cells #[.int .i64 f, .int .i64 t, .int .i64 kd, .int .i64 ir, .int .i64 jn, .int .i64 bl, .int .i64 st, .int .i64 by_, .int .i64 e.o.c, .int .i64 e.o.s, .int .i64 e.o.k, .string (txt e.o.acct), .string (txt e.o.peer), .int .i64 e.o.sum, .slice L.a L.n L.c, .int .i64 e.o.per, .int .i64 e.o.hold, .string (txt e.o.note), .bool e.none, .slice D.a D.n D.c] 40))
  go_enter Try.func12, Try.ntmps12
  go_wp2_with fail
  go_ret
  exact ⟨rfl, hm0.out⟩
set_option maxRecDepth 100000 in
set_option maxHeartbeats 8000000 in
theorem rightM_k2 (w : World) (f t kd ir jn bl st by_ : Int) (e : En) (L D : SV) (c1 : 0 ≤ f) (c2 : f ≤ 6) (c3 : 0 ≤ t) (c4 : t ≤ 6) (c5 : ¬ f = t) (c6 : ¬ kd < 1) (c7 : 9 < kd) :
    Calls Try.prog 12 #[.agg #[.int .i64 f, .int .i64 t, .int .i64 kd, .int .i64 ir, .int .i64 jn, .int .i64 bl, .int .i64 st, .int .i64 by_, .int .i64 e.o.c, .int .i64 e.o.s, .int .i64 e.o.k, .string (txt e.o.acct), .string (txt e.o.peer), .int .i64 e.o.sum, .slice L.a L.n L.c, .int .i64 e.o.per, .int .i64 e.o.hold, .string (txt e.o.note), .bool e.none, .slice D.a D.n D.c]] w fun e' w' => e' = .returned (.bool false) ∧ Mod none_ w w' := by
  have d8 : (f == t) = false := by simp; omega
  have d9 : (f != t) = true := by simp; omega
  have hm0 := Lib.hid ((Mod.refl none_ w).alloc (.cells #[.int .i64 f, .int .i64 t, .int .i64 kd, .int .i64 ir, .int .i64 jn, .int .i64 bl, .int .i64 st, .int .i64 by_, .int .i64 e.o.c, .int .i64 e.o.s, .int .i64 e.o.k, .string (txt e.o.acct), .string (txt e.o.peer), .int .i64 e.o.sum, .slice L.a L.n L.c, .int .i64 e.o.per, .int .i64 e.o.hold, .string (txt e.o.note), .bool e.none, .slice D.a D.n D.c] 40))
  go_enter Try.func12, Try.ntmps12
  go_wp2_with fail
  go_ret
  exact ⟨rfl, hm0.out⟩
end Go.Proofs.Ytdekehhmjehicaa
/-
  post.Right, where the entry alone may not be.
-/
namespace Go.Proofs.Ytdekehhmjehicaa
set_option linter.unusedVariables false
set_option linter.unusedSimpArgs false
open Go.RowKit
theorem msg_sizeF : (Try.prog.info? 40).map (·.size) = some 20 := by kernel_rfl
set_option maxRecDepth 100000 in
set_option maxHeartbeats 8000000 in
theorem rightM_f (w : World) (f t kd ir jn bl st by_ : Int) (e : En) (L D : SV) (c1 : 0 ≤ f) (c2 : f ≤ 6) (c3 : 0 ≤ t) (c4 : t ≤ 6) (c5 : ¬ f = t) (c6 : ¬ kd < 1) (c7 : ¬ 9 < kd) (hE : EnM w e L D) (hL : L.n ≤ 140737488355328) (hD : D.n ≤ 140737488355328) (hk : (Lit.int .i64 e.o.k).wf = true) (hz : ∀ l ∈ e.o.legs, (txt l.n).size ≤ maxLen) (cp : ¬ (st = 0 ∧ by_ = 0 ∧ 0 ≤ bl ∧ bl ≤ 1000000)) :
    Calls Try.prog 12 #[.agg #[.int .i64 f, .int .i64 t, .int .i64 kd, .int .i64 ir, .int .i64 jn, .int .i64 bl, .int .i64 st, .int .i64 by_, .int .i64 e.o.c, .int .i64 e.o.s, .int .i64 e.o.k, .string (txt e.o.acct), .string (txt e.o.peer), .int .i64 e.o.sum, .slice L.a L.n L.c, .int .i64 e.o.per, .int .i64 e.o.hold, .string (txt e.o.note), .bool e.none, .slice D.a D.n D.c]] w fun e' w' => e' = .returned (.bool (rightR ⟨⟨ir, jn⟩, bl, st, by_, e⟩)) ∧ Mod none_ w w' := by
  have d8 : (f == t) = false := by simp; omega
  have d9 : (f != t) = true := by simp; omega
  have hm0 := Lib.hid ((Mod.refl none_ w).alloc (.cells #[.int .i64 f, .int .i64 t, .int .i64 kd, .int .i64 ir, .int .i64 jn, .int .i64 bl, .int .i64 st, .int .i64 by_, .int .i64 e.o.c, .int .i64 e.o.s, .int .i64 e.o.k, .string (txt e.o.acct), .string (txt e.o.peer), .int .i64 e.o.sum, .slice L.a L.n L.c, .int .i64 e.o.per, .int .i64 e.o.hold, .string (txt e.o.note), .bool e.none, .slice D.a D.n D.c] 40))
  have hB1 := Lib.hid (Blk.new w 40 #[.int .i64 f, .int .i64 t, .int .i64 kd, .int .i64 ir, .int .i64 jn, .int .i64 bl, .int .i64 st, .int .i64 by_, .int .i64 e.o.c, .int .i64 e.o.s, .int .i64 e.o.k, .string (txt e.o.acct), .string (txt e.o.peer), .int .i64 e.o.sum, .slice L.a L.n L.c, .int .i64 e.o.per, .int .i64 e.o.hold, .string (txt e.o.note), .bool e.none, .slice D.a D.n D.c])
  have kw := Lib.hid (fun W => whole_ok W ⟨f, t, kd, ⟨⟨ir, jn⟩, bl, st, by_, e⟩⟩ L D)
  have kb := Lib.hid (fun W => bareM_ok W ⟨f, t, kd, ⟨⟨ir, jn⟩, bl, st, by_, e⟩⟩ L D)
  have k1 := Lib.hid (fun W (h : Mod none_ w W) => rightR_ok W ⟨⟨ir, jn⟩, bl, st, by_, e⟩ L D (hE.mod0 h) hL hD hk hz)
  have k2 := Lib.hid (fun W (h : Mod none_ w W) => rightR_ok W ⟨⟨ir, jn⟩, 0, 3, 0, e⟩ L D (hE.mod0 h) hL hD hk hz)
  dsimp only at kw kb k1 k2
  generalize rightR ⟨⟨ir, jn⟩, bl, st, by_, e⟩ = r1 at *
  generalize rightR ⟨⟨ir, jn⟩, 0, 3, 0, e⟩ = r2 at *
  replace hE := Lib.hid hE
  replace hk := Lib.hid hk
  replace hz := Lib.hid hz
  go_enter Try.func12, Try.ntmps12
  go_upto_region 1 with fail
  go_cut [1, 2, 3] from 0 to 29 (fun s1 s2 s3 W => s1 = .pointer (some ⟨w.heap.size, 0, none⟩) ∧ s2 = .bool false ∧ s3 = .bool true ∧ Mod none_ w W ∧ Blk W w.heap.size 40 #[.int .i64 f, .int .i64 t, .int .i64 kd, .int .i64 ir, .int .i64 jn, .int .i64 bl, .int .i64 st, .int .i64 by_, .int .i64 e.o.c, .int .i64 e.o.s, .int .i64 e.o.k, .string (txt e.o.acct), .string (txt e.o.peer), .int .i64 e.o.sum, .slice L.a L.n L.c, .int .i64 e.o.per, .int .i64 e.o.hold, .string (txt e.o.note), .bool e.none, .slice D.a D.n D.c])
  case first =>
    go_wp2_with fail
    go_meet
    exact ⟨rfl, rfl, rfl, hm0.out, hB1.out⟩
  case rest =>
    clear hm0 hB1
    obtain ⟨rfl, rfl, rfl, hm0, hB1⟩ := hcut
    have p0 : wc.cell? ⟨w.heap.size, 0, none⟩ = some (.int .i64 f) := hB1.cell_ rfl
    have p1 : wc.cell? ⟨w.heap.size, 1, none⟩ = some (.int .i64 t) := hB1.cell_ rfl
    have p2 : wc.cell? ⟨w.heap.size, 2, none⟩ = some (.int .i64 kd) := hB1.cell_ rfl
    have p3 : wc.cell? ⟨w.heap.size, 3, none⟩ = some (.int .i64 ir) := hB1.cell_ rfl
    have p4 : wc.cell? ⟨w.heap.size, 4, none⟩ = some (.int .i64 jn) := hB1.cell_ rfl
    have p5 : wc.cell? ⟨w.heap.size, 5, none⟩ = some (.int .i64 bl) := hB1.cell_ rfl
    have p6 : wc.cell? ⟨w.heap.size, 6, none⟩ = some (.int .i64 st) := hB1.cell_ rfl
    have p7 : wc.cell? ⟨w.heap.size, 7, none⟩ = some (.int .i64 by_) := hB1.cell_ rfl
    replace hm0 := Lib.hid hm0
    replace hB1 := Lib.hid hB1
    go_upto_region 4 with fail
    rename World => w9
    go_cut [4] from 4 to 59 (fun s4 W => s4 = .bool false ∧ W = w9)
    case first =>
      have e1 : ¬ st = 0 ∨ (st = 0 ∧ ¬ by_ = 0) ∨ (st = 0 ∧ by_ = 0 ∧ ¬ 0 ≤ bl) ∨ (st = 0 ∧ by_ = 0 ∧ 0 ≤ bl ∧ ¬ bl ≤ 1000000) := by omega
      clear kw kb k1 k2 hm0 hB1 cp
      rcases e1 with c | ⟨rfl, c⟩ | ⟨rfl, rfl, c⟩ | ⟨rfl, rfl, ca, c⟩
      · go_wp2_with fail
        go_meet
        exact ⟨rfl, rfl⟩
      · go_wp2_with fail
        go_meet
        exact ⟨rfl, rfl⟩
      · go_wp2_with fail
        go_meet
        exact ⟨rfl, rfl⟩
      · go_wp2_with fail
        go_meet
        exact ⟨rfl, rfl⟩
    case rest =>
      obtain ⟨rfl, rfl⟩ := hcut
      clear cp
      go_wp2_with (refine wpList_load_row rfl 40 (.tmp 1) rfl w.heap.size rfl _ _ _ _ hB1.out Try.underlying40 rfl msg_sizeF ?_)
      with_reducible refine (kw.out _).mono ?_
      rintro e' w1 ⟨rfl, hm1⟩
      dsimp only
      have hB2 := Lib.hid (hB1.out.mod hm1 (fun h => h))
      have hm2 := Lib.hid (hm0.out.trans hm1)
      clear hm1
      have k1x := Lib.hid (k1.out w1 hm2.out)
      go_wp2_with fail
      with_reducible refine k1x.out.mono ?_
      rintro e' w2 ⟨rfl, hm3⟩
      dsimp only
      have hB3 := hB2.out.mod hm3 (fun h => h)
      have hm4 := Lib.hid (hm2.out.trans hm3)
      clear hm3
      replace hB3 := Lib.hid hB3
      go_wp2_with fail
      all_goals
        go_ret
        exact ⟨by simp_all, hm4.out⟩
end Go.Proofs.Ytdekehhmjehicaa
/-
  post.Right, where the entry alone may be.
-/
namespace Go.Proofs.Ytdekehhmjehicaa
set_option linter.unusedVariables false
set_option linter.unusedSimpArgs false
open Go.RowKit
theorem msg_size : (Try.prog.info? 40).map (·.size) = some 20 := by kernel_rfl
set_option maxRecDepth 100000 in
set_option maxHeartbeats 8000000 in
theorem rightM_t (w : World) (f t kd ir jn bl st by_ : Int) (e : En) (L D : SV) (c1 : 0 ≤ f) (c2 : f ≤ 6) (c3 : 0 ≤ t) (c4 : t ≤ 6) (c5 : ¬ f = t) (c6 : ¬ kd < 1) (c7 : ¬ 9 < kd) (hE : EnM w e L D) (hL : L.n ≤ 140737488355328) (hD : D.n ≤ 140737488355328) (hk : (Lit.int .i64 e.o.k).wf = true) (hz : ∀ l ∈ e.o.legs, (txt l.n).size ≤ maxLen) (hs : st = 0) (hb : by_ = 0) (ca : 0 ≤ bl) (cb : bl ≤ 1000000) :
    Calls Try.prog 12 #[.agg #[.int .i64 f, .int .i64 t, .int .i64 kd, .int .i64 ir, .int .i64 jn, .int .i64 bl, .int .i64 st, .int .i64 by_, .int .i64 e.o.c, .int .i64 e.o.s, .int .i64 e.o.k, .string (txt e.o.acct), .string (txt e.o.peer), .int .i64 e.o.sum, .slice L.a L.n L.c, .int .i64 e.o.per, .int .i64 e.o.hold, .string (txt e.o.note), .bool e.none, .slice D.a D.n D.c]] w fun e' w' => e' = .returned (.bool (rightR ⟨⟨ir, jn⟩, bl, 0, 0, e⟩ || rightR ⟨⟨ir, jn⟩, 0, 3, 0, e⟩)) ∧ Mod none_ w w' := by
  subst hs hb
  have d8 : (f == t) = false := by simp; omega
  have d9 : (f != t) = true := by simp; omega
  have hm0 := Lib.hid ((Mod.refl none_ w).alloc (.cells #[.int .i64 f, .int .i64 t, .int .i64 kd, .int .i64 ir, .int .i64 jn, .int .i64 bl, .int .i64 0, .int .i64 0, .int .i64 e.o.c, .int .i64 e.o.s, .int .i64 e.o.k, .string (txt e.o.acct), .string (txt e.o.peer), .int .i64 e.o.sum, .slice L.a L.n L.c, .int .i64 e.o.per, .int .i64 e.o.hold, .string (txt e.o.note), .bool e.none, .slice D.a D.n D.c] 40))
  have hB1 := Lib.hid (Blk.new w 40 #[.int .i64 f, .int .i64 t, .int .i64 kd, .int .i64 ir, .int .i64 jn, .int .i64 bl, .int .i64 0, .int .i64 0, .int .i64 e.o.c, .int .i64 e.o.s, .int .i64 e.o.k, .string (txt e.o.acct), .string (txt e.o.peer), .int .i64 e.o.sum, .slice L.a L.n L.c, .int .i64 e.o.per, .int .i64 e.o.hold, .string (txt e.o.note), .bool e.none, .slice D.a D.n D.c])
  have kw := Lib.hid (fun W => whole_ok W ⟨f, t, kd, ⟨⟨ir, jn⟩, bl, 0, 0, e⟩⟩ L D)
  have kb := Lib.hid (fun W => bareM_ok W ⟨f, t, kd, ⟨⟨ir, jn⟩, bl, 0, 0, e⟩⟩ L D)
  have k1 := Lib.hid (fun W (h : Mod none_ w W) => rightR_ok W ⟨⟨ir, jn⟩, bl, 0, 0, e⟩ L D (hE.mod0 h) hL hD hk hz)
  have k2 := Lib.hid (fun W (h : Mod none_ w W) => rightR_ok W ⟨⟨ir, jn⟩, 0, 3, 0, e⟩ L D (hE.mod0 h) hL hD hk hz)
  dsimp only at kw kb k1 k2
  generalize rightR ⟨⟨ir, jn⟩, bl, 0, 0, e⟩ = r1 at *
  generalize rightR ⟨⟨ir, jn⟩, 0, 3, 0, e⟩ = r2 at *
  replace hE := Lib.hid hE
  replace hk := Lib.hid hk
  replace hz := Lib.hid hz
  go_enter Try.func12, Try.ntmps12
  go_upto_region 1 with fail
  go_cut [1, 2, 3] from 0 to 29 (fun s1 s2 s3 W => s1 = .pointer (some ⟨w.heap.size, 0, none⟩) ∧ s2 = .bool false ∧ s3 = .bool true ∧ Mod none_ w W ∧ Blk W w.heap.size 40 #[.int .i64 f, .int .i64 t, .int .i64 kd, .int .i64 ir, .int .i64 jn, .int .i64 bl, .int .i64 0, .int .i64 0, .int .i64 e.o.c, .int .i64 e.o.s, .int .i64 e.o.k, .string (txt e.o.acct), .string (txt e.o.peer), .int .i64 e.o.sum, .slice L.a L.n L.c, .int .i64 e.o.per, .int .i64 e.o.hold, .string (txt e.o.note), .bool e.none, .slice D.a D.n D.c])
  case first =>
    go_wp2_with fail
    go_meet
    exact ⟨rfl, rfl, rfl, hm0.out, hB1.out⟩
  case rest =>
    clear hm0 hB1
    obtain ⟨rfl, rfl, rfl, hm0, hB1⟩ := hcut
    have p0 : wc.cell? ⟨w.heap.size, 0, none⟩ = some (.int .i64 f) := hB1.cell_ rfl
    have p1 : wc.cell? ⟨w.heap.size, 1, none⟩ = some (.int .i64 t) := hB1.cell_ rfl
    have p2 : wc.cell? ⟨w.heap.size, 2, none⟩ = some (.int .i64 kd) := hB1.cell_ rfl
    have p3 : wc.cell? ⟨w.heap.size, 3, none⟩ = some (.int .i64 ir) := hB1.cell_ rfl
    have p4 : wc.cell? ⟨w.heap.size, 4, none⟩ = some (.int .i64 jn) := hB1.cell_ rfl
    have p5 : wc.cell? ⟨w.heap.size, 5, none⟩ = some (.int .i64 bl) := hB1.cell_ rfl
    have p6 : wc.cell? ⟨w.heap.size, 6, none⟩ = some (.int .i64 0) := hB1.cell_ rfl
    have p7 : wc.cell? ⟨w.heap.size, 7, none⟩ = some (.int .i64 0) := hB1.cell_ rfl
    replace hm0 := Lib.hid hm0
    replace hB1 := Lib.hid hB1
    go_wp2_with (refine wpList_load_row rfl 40 (.tmp 1) rfl w.heap.size rfl _ _ _ _ hB1.out Try.underlying40 rfl msg_size ?_)
    with_reducible refine (kw.out _).mono ?_
    rintro e' w1 ⟨rfl, hm1⟩
    dsimp only
    have hB2 := Lib.hid (hB1.out.mod hm1 (fun h => h))
    have hm2 := Lib.hid (hm0.out.trans hm1)
    clear hm1
    have k1x := Lib.hid (k1.out w1 hm2.out)
    go_wp2_with fail
    with_reducible refine k1x.out.mono ?_
    rintro e' w2 ⟨rfl, hm3⟩
    dsimp only
    have hB3 := hB2.out.mod hm3 (fun h => h)
    have hm4 := Lib.hid (hm2.out.trans hm3)
    clear hm3
    replace hB3 := Lib.hid hB3
    cases r1 with
    | true =>
      go_wp2_with fail
      go_ret
      exact ⟨rfl, hm4.out⟩
    | false =>
      go_wp2_with (refine wpList_step (fun K hK => ?_); rw [if_pos (by rfl)]; refine wp_load_row 40 (.tmp 1) rfl w.heap.size rfl _ _ _ _ hB3.out Try.underlying40 rfl msg_size ?_; refine hK _ _ ?_)
      with_reducible refine (kb.out _).mono ?_
      rintro e' w3 ⟨rfl, hm5⟩
      dsimp only
      have hm6 := Lib.hid (hm4.out.trans hm5)
      clear hm5
      have k2x := Lib.hid (k2.out w3 hm6.out)
      go_wp2_with fail
      with_reducible refine k2x.out.mono ?_
      rintro e' w4 ⟨rfl, hm7⟩
      dsimp only
      have hm8 := Lib.hid (hm6.out.trans hm7)
      clear hm7
      go_wp2_with fail
      go_ret
      exact ⟨rfl, hm8.out⟩
end Go.Proofs.Ytdekehhmjehicaa
/-
  post.Right, joined.
-/
namespace Go.Proofs.Ytdekehhmjehicaa
set_option linter.unusedVariables false
set_option linter.unusedSimpArgs false
open Go.RowKit
theorem rightM_ok (w : World) (m : Mg) (L D : SV) (hE : EnM w m.r.e L D) (hL : L.n ≤ 140737488355328) (hD : D.n ≤ 140737488355328) (hk : (Lit.int .i64 m.r.e.o.k).wf = true) (hz : ∀ l ∈ m.r.e.o.legs, (txt l.n).size ≤ maxLen) :
    Calls Try.prog 12 #[.agg #[.int .i64 m.frm, .int .i64 m.to, .int .i64 m.kind, .int .i64 m.r.i.r, .int .i64 m.r.i.n, .int .i64 m.r.bal, .int .i64 m.r.st, .int .i64 m.r.by_, .int .i64 m.r.e.o.c, .int .i64 m.r.e.o.s, .int .i64 m.r.e.o.k, .string (txt m.r.e.o.acct), .string (txt m.r.e.o.peer), .int .i64 m.r.e.o.sum, .slice L.a L.n L.c, .int .i64 m.r.e.o.per, .int .i64 m.r.e.o.hold, .string (txt m.r.e.o.note), .bool m.r.e.none, .slice D.a D.n D.c]] w fun e' w' => e' = .returned (.bool (rightM m)) ∧ Mod none_ w w' := by
  obtain ⟨f, t, kd, ⟨⟨ir, jn⟩, bl, st, by_, e⟩⟩ := m
  have hrm : rightM ⟨f, t, kd, ⟨⟨ir, jn⟩, bl, st, by_, e⟩⟩ = (decide (0 ≤ f ∧ f ≤ 6 ∧ 0 ≤ t ∧ t ≤ 6 ∧ ¬ f = t) && (decide (1 ≤ kd ∧ kd ≤ 9) && (rightR ⟨⟨ir, jn⟩, bl, st, by_, e⟩ || (decide (st = 0 ∧ by_ = 0 ∧ 0 ≤ bl ∧ bl ≤ 1000000) && rightR ⟨⟨ir, jn⟩, 0, 3, 0, e⟩)))) := rfl
  rw [hrm]
  by_cases h1 : 0 ≤ f ∧ f ≤ 6 ∧ 0 ≤ t ∧ t ≤ 6 ∧ ¬ f = t
  · obtain ⟨c1, c2, c3, c4, c5⟩ := h1
    rw [decide_eq_true (⟨c1, c2, c3, c4, c5⟩ : 0 ≤ f ∧ f ≤ 6 ∧ 0 ≤ t ∧ t ≤ 6 ∧ ¬ f = t), Bool.true_and]
    by_cases h2 : 1 ≤ kd ∧ kd ≤ 9
    · rw [decide_eq_true h2, Bool.true_and]
      by_cases h3 : st = 0 ∧ by_ = 0 ∧ 0 ≤ bl ∧ bl ≤ 1000000
      · obtain ⟨hs, hb, ca, cb⟩ := h3
        have := rightM_t w f t kd ir jn bl st by_ e L D c1 c2 c3 c4 c5 (by omega) (by omega) hE hL hD hk hz hs hb ca cb
        rw [decide_eq_true (⟨hs, hb, ca, cb⟩ : st = 0 ∧ by_ = 0 ∧ 0 ≤ bl ∧ bl ≤ 1000000), Bool.true_and]
        subst hs hb
        exact this
      · have := rightM_f w f t kd ir jn bl st by_ e L D c1 c2 c3 c4 c5 (by omega) (by omega) hE hL hD hk hz h3
        rw [decide_eq_false h3, Bool.false_and, Bool.or_false]
        exact this
    · rw [decide_eq_false h2, Bool.false_and]
      by_cases h3 : kd < 1
      · exact rightM_k1 w f t kd ir jn bl st by_ e L D c1 c2 c3 c4 c5 h3
      · exact rightM_k2 w f t kd ir jn bl st by_ e L D c1 c2 c3 c4 c5 h3 (by omega)
  · rw [decide_eq_false h1, Bool.false_and]
    by_cases c1 : 0 ≤ f
    · by_cases c2 : f ≤ 6
      · by_cases c3 : 0 ≤ t
        · by_cases c4 : t ≤ 6
          · exact rightM_e5 w f t kd ir jn bl st by_ e L D c1 c2 (by omega)
          · exact rightM_e4 w f t kd ir jn bl st by_ e L D c1 c2 c3 c4
        · exact rightM_e3 w f t kd ir jn bl st by_ e L D c1 c2 c3
      · exact rightM_e2 w f t kd ir jn bl st by_ e L D c1 c2
    · exact rightM_e1 w f t kd ir jn bl st by_ e L D c1
end Go.Proofs.Ytdekehhmjehicaa
/-
  Messages in memory.
-/
namespace Go.Proofs.Ytdekehhmjehicaa
set_option linter.unusedVariables false
set_option linter.unusedSimpArgs false
open Go.RowKit
/-- a message, and where its lists lie -/
structure Ms where
  m : Mg
  L : SV
  D : SV
def msC (x : Ms) : List Value := [.int .i64 x.m.frm, .int .i64 x.m.to, .int .i64 x.m.kind, .int .i64 x.m.r.i.r, .int .i64 x.m.r.i.n, .int .i64 x.m.r.bal, .int .i64 x.m.r.st, .int .i64 x.m.r.by_, .int .i64 x.m.r.e.o.c, .int .i64 x.m.r.e.o.s, .int .i64 x.m.r.e.o.k, .string (txt x.m.r.e.o.acct), .string (txt x.m.r.e.o.peer), .int .i64 x.m.r.e.o.sum, .slice x.L.a x.L.n x.L.c, .int .i64 x.m.r.e.o.per, .int .i64 x.m.r.e.o.hold, .string (txt x.m.r.e.o.note), .bool x.m.r.e.none, .slice x.D.a x.D.n x.D.c]
def mss (xs : List Ms) : List Value := xs.flatMap msC
theorem mss_length (xs : List Ms) : (mss xs).length = xs.length * 20 := flat_length _ 20 (fun _ => rfl) xs
theorem mss_append (C D : List Ms) : mss (C ++ D) = mss C ++ mss D := by unfold mss; rw [List.flatMap_append]
theorem mss_one (xs : List Ms) : ∀ u ∈ mss xs, u.oneCell' = true := by
  intro u hu
  unfold mss at hu
  rw [List.mem_flatMap] at hu
  obtain ⟨a, _, ha⟩ := hu
  simp only [msC, List.mem_cons, List.not_mem_nil, or_false] at ha
  rcases ha with rfl | rfl | rfl | rfl | rfl | rfl | rfl | rfl | rfl | rfl | rfl | rfl | rfl | rfl | rfl | rfl | rfl | rfl | rfl | rfl <;> rfl
def RdM (w : World) (A : Option Addr) (n : Nat) (xs : List Ms) : Prop := Rd w 20 A n (mss xs)
def OwM (w : World) (A : Option Addr) (n c : Nat) (xs : List Ms) : Prop := Ow w 40 20 A n c (mss xs)
/-- what the lists of messages hold -/
def MsM (w : World) (xs : List Ms) : Prop := ∀ x ∈ xs, EnM w x.m.r.e x.L x.D
def zeroM : Value := .agg #[.int .i64 0, .int .i64 0, .int .i64 0, .int .i64 0, .int .i64 0, .int .i64 0, .int .i64 0, .int .i64 0, .int .i64 0, .int .i64 0, .int .i64 0, .string ⟨#[]⟩, .string ⟨#[]⟩, .int .i64 0, .slice none 0 0, .int .i64 0, .int .i64 0, .string ⟨#[]⟩, .bool false, .slice none 0 0]
theorem msinfo : (Try.prog.info? 40).map (fun i => (i.zero, i.size, i.bytes)) = some (some zeroM, 20, 216) := by kernel_rfl
theorem appM {w : World} {ops : Array Oper} {rest : List Oper} {o : Oper} {a : Act} {Q : Exit → Act → World → Prop} (hgd : o.guard = none) (s x : Operand)
    (ho : o.op = .call { callee := .builtin .append, args := #[s, x], argTypes := #[22, 22] })
    {A : Option Addr} {n c : Nat} {xs : List Ms} (hs : a.eval s = .slice A n c) (hown : OwM w A n c xs)
    {S : Option Addr} {m d : Nat} {news : List Ms} (hx : a.eval x = .slice S m d) (hr : RdM w S m news) (hb : (n + m) * 216 ≤ 140737488355328)
    (h : ∀ A' c' w', OwM w' A' (n + m) c' (xs ++ news) → Mod (fp A) w w' → (A' = A ∨ A' = some ⟨w.heap.size, 0, none⟩) → wpList Try.prog ops Q rest (a.put o.dst (.slice A' (n + m) c')) w') : wpList Try.prog ops Q (o :: rest) a w := by
  obtain ⟨i0, hi, hz0, hz1, hz2⟩ := info_parts msinfo
  refine wpList_append_ow hgd s x 22 ho 40 i0 _ 20 216 Try.underlying22 hi hz0 hz1 hz2 rfl (by omega) A n c (mss xs) hs hown S m d (mss news) hx hr (mss_one _) (by omega) (by omega) ?_
  intro A' c' w' h1
  rw [← mss_append] at h1
  exact h A' c' w' h1
end Go.Proofs.Ytdekehhmjehicaa
