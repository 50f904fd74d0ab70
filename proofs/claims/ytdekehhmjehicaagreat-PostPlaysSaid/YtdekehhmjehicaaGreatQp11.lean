import Derived.Test.YtdekehhmjehicaaGreatQp9
import Derived.Test.YtdekehhmjehicaaGreatQp10
/-
  The reference's Right of messages, and its Same of what is the same. No condition.
-/
namespace Go.Proofs.YtdekehhmjehicaaGreat
set_option linter.unusedVariables false
set_option linter.unusedSimpArgs false
open Go.RowKit
set_option maxRecDepth 100000 in
theorem r17rec_ok (w : World) (m : Mg) (L D : SV) : Calls Tryz.prog 47 #[.agg #[.int .i64 m.frm, .int .i64 m.to, .int .i64 m.kind, .int .i64 m.r.i.r, .int .i64 m.r.i.n, .int .i64 m.r.bal, .int .i64 m.r.st, .int .i64 m.r.by_, .int .i64 m.r.e.o.c, .int .i64 m.r.e.o.s, .int .i64 m.r.e.o.k, .string (txt m.r.e.o.acct), .string (txt m.r.e.o.peer), .int .i64 m.r.e.o.sum, .slice L.a L.n L.c, .int .i64 m.r.e.o.per, .int .i64 m.r.e.o.hold, .string (txt m.r.e.o.note), .bool m.r.e.none, .slice D.a D.n D.c]] w fun e' w' => e' = .returned (.agg #[.int .i64 m.r.i.r, .int .i64 m.r.i.n, .int .i64 m.r.bal, .int .i64 m.r.st, .int .i64 m.r.by_, .int .i64 m.r.e.o.c, .int .i64 m.r.e.o.s, .int .i64 m.r.e.o.k, .string (txt m.r.e.o.acct), .string (txt m.r.e.o.peer), .int .i64 m.r.e.o.sum, .slice L.a L.n L.c, .int .i64 m.r.e.o.per, .int .i64 m.r.e.o.hold, .string (txt m.r.e.o.note), .bool m.r.e.none, .slice D.a D.n D.c]) ∧ Mod none_ w w' := by
  go_enter Tryz.func47, Tryz.ntmps47
  go_wp2_with fail
  exact ret_record rfl (w.heap.size + 1) _ rfl (heap_alloc2_new _ _ _) rfl rfl ⟨rfl, ((Mod.refl none_ w).alloc _).alloc _⟩
set_option maxRecDepth 100000 in
theorem r17plain_ok (w : World) (m : Mg) (L D : SV) : Calls Tryz.prog 48 #[.agg #[.int .i64 m.frm, .int .i64 m.to, .int .i64 m.kind, .int .i64 m.r.i.r, .int .i64 m.r.i.n, .int .i64 m.r.bal, .int .i64 m.r.st, .int .i64 m.r.by_, .int .i64 m.r.e.o.c, .int .i64 m.r.e.o.s, .int .i64 m.r.e.o.k, .string (txt m.r.e.o.acct), .string (txt m.r.e.o.peer), .int .i64 m.r.e.o.sum, .slice L.a L.n L.c, .int .i64 m.r.e.o.per, .int .i64 m.r.e.o.hold, .string (txt m.r.e.o.note), .bool m.r.e.none, .slice D.a D.n D.c]] w fun e' w' => e' = .returned (.agg #[.int .i64 m.r.i.r, .int .i64 m.r.i.n, .int .i64 0, .int .i64 3, .int .i64 0, .int .i64 m.r.e.o.c, .int .i64 m.r.e.o.s, .int .i64 m.r.e.o.k, .string (txt m.r.e.o.acct), .string (txt m.r.e.o.peer), .int .i64 m.r.e.o.sum, .slice L.a L.n L.c, .int .i64 m.r.e.o.per, .int .i64 m.r.e.o.hold, .string (txt m.r.e.o.note), .bool m.r.e.none, .slice D.a D.n D.c]) ∧ Mod none_ w w' := by
  go_enter Tryz.func48, Tryz.ntmps48
  go_wp2_with fail
  exact ret_record rfl (w.heap.size + 1) _ rfl (heap_alloc2_new _ _ _) rfl rfl ⟨rfl, ((Mod.refl none_ w).alloc _).alloc _⟩
def outM (m : Mg) : Prop := m.frm < 0 ∨ 6 < m.frm ∨ m.to < 0 ∨ 6 < m.to ∨ m.frm = m.to ∨ m.kind < 1 ∨ 9 < m.kind
theorem rightM_out {m : Mg} (h : outM m) : rightM m = false := by
  unfold outM at h
  unfold rightM endsB kindMB
  by_cases h1 : 0 ≤ m.frm ∧ m.frm ≤ 6 ∧ 0 ≤ m.to ∧ m.to ≤ 6 ∧ ¬ m.frm = m.to
  · rw [decide_eq_true h1, decide_eq_false (show ¬ (1 ≤ m.kind ∧ m.kind ≤ 9) by omega)] <;> rfl
  · rw [decide_eq_false h1] <;> rfl
theorem rightM_in {m : Mg} (h : ¬ outM m) : rightM m = (rightR m.r || (plainB m && rightR (bareR m.r))) := by
  unfold outM at h
  unfold rightM endsB kindMB
  rw [decide_eq_true (show 0 ≤ m.frm ∧ m.frm ≤ 6 ∧ 0 ≤ m.to ∧ m.to ≤ 6 ∧ ¬ m.frm = m.to by omega), decide_eq_true (show 1 ≤ m.kind ∧ m.kind ≤ 9 by omega)]
  rfl
theorem msg_sizeG : (Tryz.prog.info? 46).map (·.size) = some 20 := by kernel_rfl
theorem wp_load_msg {w : World} {ops : Array Oper} {rest : List Oper} {o : Oper} {a : Act} {Q : Exit → Act → World → Prop} (hw : Region.wanted o (yielded ops a.tmps) = true) (x : Operand) (ho : o.op = .load 46 x)
    (g : Nat) (hx : a.eval x = .pointer (some ⟨g, 0, none⟩)) {cs : Array Value} (hb : Blk w g 46 cs) (hs : cs.size = 20) (h : wpList Tryz.prog ops Q rest (a.put o.dst (.agg cs)) w) : wpList Tryz.prog ops Q (o :: rest) a w :=
  wpList_step fun _ hK => by
    rw [if_pos hw]
    exact wp_load_row 46 x ho g hx _ _ _ _ hb Tryz.underlying46 rfl (by rw [hs]; exact msg_sizeG) (hK _ _ h)
set_option maxRecDepth 100000 in
set_option maxHeartbeats 8000000 in
theorem r17right_ok (w : World) (m : Mg) (L D : SV) (hE : EnM w m.r.e L D) (hL : L.n ≤ 140737488355328) (hD : D.n ≤ 140737488355328) (hz : ∀ l ∈ m.r.e.o.legs, (txt l.n).size ≤ maxLen) (ta : (txt m.r.e.o.acct).size ≤ maxLen) (tp : (txt m.r.e.o.peer).size ≤ maxLen) :
    Calls Tryz.prog 29 #[.agg #[.int .i64 m.frm, .int .i64 m.to, .int .i64 m.kind, .int .i64 m.r.i.r, .int .i64 m.r.i.n, .int .i64 m.r.bal, .int .i64 m.r.st, .int .i64 m.r.by_, .int .i64 m.r.e.o.c, .int .i64 m.r.e.o.s, .int .i64 m.r.e.o.k, .string (txt m.r.e.o.acct), .string (txt m.r.e.o.peer), .int .i64 m.r.e.o.sum, .slice L.a L.n L.c, .int .i64 m.r.e.o.per, .int .i64 m.r.e.o.hold, .string (txt m.r.e.o.note), .bool m.r.e.none, .slice D.a D.n D.c]] w fun e' w' => e' = .returned (.bool (rightM m)) ∧ Mod none_ w w' := by
  have kr := Lib.hid (fun W => r17rec_ok W m L D)
  have kp := Lib.hid (fun W => r17plain_ok W m L D)
  have k1 := Lib.hid (fun W (h : Mod none_ w W) => r15right_ok W m.r L D (hE.mod0 h) hL hD hz ta tp)
  have k2 := Lib.hid (fun W (h : Mod none_ w W) => r15right_ok W (bareR m.r) L D (hE.mod0 h) hL hD hz ta tp)
  unfold bareR at k2
  dsimp only at k2
  have hB1 := Lib.hid (Blk.new w 46 #[.int .i64 m.frm, .int .i64 m.to, .int .i64 m.kind, .int .i64 m.r.i.r, .int .i64 m.r.i.n, .int .i64 m.r.bal, .int .i64 m.r.st, .int .i64 m.r.by_, .int .i64 m.r.e.o.c, .int .i64 m.r.e.o.s, .int .i64 m.r.e.o.k, .string (txt m.r.e.o.acct), .string (txt m.r.e.o.peer), .int .i64 m.r.e.o.sum, .slice L.a L.n L.c, .int .i64 m.r.e.o.per, .int .i64 m.r.e.o.hold, .string (txt m.r.e.o.note), .bool m.r.e.none, .slice D.a D.n D.c])
  have hm0 := Lib.hid ((Mod.refl none_ w).alloc (.cells #[.int .i64 m.frm, .int .i64 m.to, .int .i64 m.kind, .int .i64 m.r.i.r, .int .i64 m.r.i.n, .int .i64 m.r.bal, .int .i64 m.r.st, .int .i64 m.r.by_, .int .i64 m.r.e.o.c, .int .i64 m.r.e.o.s, .int .i64 m.r.e.o.k, .string (txt m.r.e.o.acct), .string (txt m.r.e.o.peer), .int .i64 m.r.e.o.sum, .slice L.a L.n L.c, .int .i64 m.r.e.o.per, .int .i64 m.r.e.o.hold, .string (txt m.r.e.o.note), .bool m.r.e.none, .slice D.a D.n D.c] 46))
  replace hE := Lib.hid hE
  replace hz := Lib.hid hz
  replace ta := Lib.hid ta
  replace tp := Lib.hid tp
  go_enter Tryz.func29, Tryz.ntmps29
  go_upto_region 1 with fail
  obtain ⟨W0, hW0⟩ : ∃ W0, W0 = w.alloc (.cells #[.int .i64 m.frm, .int .i64 m.to, .int .i64 m.kind, .int .i64 m.r.i.r, .int .i64 m.r.i.n, .int .i64 m.r.bal, .int .i64 m.r.st, .int .i64 m.r.by_, .int .i64 m.r.e.o.c, .int .i64 m.r.e.o.s, .int .i64 m.r.e.o.k, .string (txt m.r.e.o.acct), .string (txt m.r.e.o.peer), .int .i64 m.r.e.o.sum, .slice L.a L.n L.c, .int .i64 m.r.e.o.per, .int .i64 m.r.e.o.hold, .string (txt m.r.e.o.note), .bool m.r.e.none, .slice D.a D.n D.c] 46) := ⟨_, rfl⟩
  rw [← hW0] at hB1 hm0 ⊢
  have p0 : W0.cell? ⟨w.heap.size, 0, none⟩ = some (.int .i64 m.frm) := hB1.out.cell_ rfl
  have p1 : W0.cell? ⟨w.heap.size, 1, none⟩ = some (.int .i64 m.to) := hB1.out.cell_ rfl
  have p2 : W0.cell? ⟨w.heap.size, 2, none⟩ = some (.int .i64 m.kind) := hB1.out.cell_ rfl
  have p3 : W0.cell? ⟨w.heap.size, 3, none⟩ = some (.int .i64 m.r.i.r) := hB1.out.cell_ rfl
  have p4 : W0.cell? ⟨w.heap.size, 4, none⟩ = some (.int .i64 m.r.i.n) := hB1.out.cell_ rfl
  have p5 : W0.cell? ⟨w.heap.size, 5, none⟩ = some (.int .i64 m.r.bal) := hB1.out.cell_ rfl
  have p6 : W0.cell? ⟨w.heap.size, 6, none⟩ = some (.int .i64 m.r.st) := hB1.out.cell_ rfl
  have p7 : W0.cell? ⟨w.heap.size, 7, none⟩ = some (.int .i64 m.r.by_) := hB1.out.cell_ rfl
  replace hW0 := Lib.hid hW0
  by_cases hout : outM m
  · have hres := Lib.hid (rightM_out hout)
    unfold outM at hout
    have hd : m.frm < 0 ∨ (¬ m.frm < 0 ∧ 6 < m.frm) ∨ (¬ m.frm < 0 ∧ ¬ 6 < m.frm ∧ m.to < 0) ∨ (¬ m.frm < 0 ∧ ¬ 6 < m.frm ∧ ¬ m.to < 0 ∧ 6 < m.to) ∨ (¬ m.frm < 0 ∧ ¬ 6 < m.frm ∧ ¬ m.to < 0 ∧ ¬ 6 < m.to ∧ (m.frm == m.to) = true) ∨ (¬ m.frm < 0 ∧ ¬ 6 < m.frm ∧ ¬ m.to < 0 ∧ ¬ 6 < m.to ∧ (m.frm == m.to) = false ∧ m.kind < 1) ∨ (¬ m.frm < 0 ∧ ¬ 6 < m.frm ∧ ¬ m.to < 0 ∧ ¬ 6 < m.to ∧ (m.frm == m.to) = false ∧ ¬ m.kind < 1 ∧ 9 < m.kind) := by
      have e : (m.frm == m.to) = decide (m.frm = m.to) := by by_cases h : m.frm = m.to <;> simp [h]
      by_cases he : m.frm = m.to
      · rw [decide_eq_true he] at e; rw [e]; simp; omega
      · rw [decide_eq_false he] at e; rw [e]; simp; omega
    clear hout
    rcases hd with c1 | ⟨c1, c2⟩ | ⟨c1, c2, c3⟩ | ⟨c1, c2, c3, c4⟩ | ⟨c1, c2, c3, c4, c5⟩ | ⟨c1, c2, c3, c4, c5, c6⟩ | ⟨c1, c2, c3, c4, c5, c6, c7⟩
    · as_aux_lemma =>
        go_wp2_with fail
        go_ret
        exact ⟨by rw [hres.out] <;> rfl, hm0.out⟩
    · as_aux_lemma =>
        go_wp2_with fail
        go_ret
        exact ⟨by rw [hres.out] <;> rfl, hm0.out⟩
    · as_aux_lemma =>
        go_wp2_with fail
        go_ret
        exact ⟨by rw [hres.out] <;> rfl, hm0.out⟩
    · as_aux_lemma =>
        go_wp2_with fail
        go_ret
        exact ⟨by rw [hres.out] <;> rfl, hm0.out⟩
    · as_aux_lemma =>
        go_wp2_with fail
        go_ret
        exact ⟨by rw [hres.out] <;> rfl, hm0.out⟩
    · as_aux_lemma =>
        go_wp2_with fail
        go_ret
        exact ⟨by rw [hres.out] <;> rfl, hm0.out⟩
    · as_aux_lemma =>
        go_wp2_with fail
        go_ret
        exact ⟨by rw [hres.out] <;> rfl, hm0.out⟩
  · have hres := rightM_in hout
    unfold outM at hout
    have d0 : ¬ m.frm < 0 := by omega
    have d1 : ¬ 6 < m.frm := by omega
    have d2 : ¬ m.to < 0 := by omega
    have d3 : ¬ 6 < m.to := by omega
    have d4 : (m.frm == m.to) = false := by simp; omega
    have d5 : ¬ m.kind < 1 := by omega
    have d6 : ¬ 9 < m.kind := by omega
    have d7 : ¬ m.frm = m.to := by omega
    clear hout
    replace hres := Lib.hid hres
    go_wp2_with (refine wpList_load_row rfl 46 (.tmp 1) rfl w.heap.size rfl _ _ _ _ hB1.out Tryz.underlying46 rfl msg_sizeG ?_)
    with_reducible refine (kr.out _).mono ?_
    rintro e' w1 ⟨rfl, hm1⟩
    dsimp only
    have hM1 := Lib.hid (hm0.out.trans hm1)
    have hB2 := Lib.hid (hB1.out.mod hm1 (fun h => h))
    have k1x := Lib.hid (k1.out w1 hM1.out)
    clear hm1
    go_wp2_with fail
    with_reducible refine k1x.out.mono ?_
    rintro e' w2 ⟨rfl, hm2⟩
    dsimp only
    have hM2 := Lib.hid (hM1.out.trans hm2)
    have hB3 := Lib.hid (hB2.out.mod hm2 (fun h => h))
    clear hm2 k1x k1 hB2
    cases hr1 : rightR m.r with
    | true =>
      have hres2 := Lib.hid (hres.out.trans (by rw [hr1] <;> rfl : _ = true))
      replace hr1 := Lib.hid hr1
      go_wp2_with fail
      go_ret
      exact ⟨by rw [hres2.out] <;> rfl, hM2.out⟩
    | false =>
      have hres2 := hres.out.trans (by rw [hr1, Bool.false_or] : _ = (plainB m && rightR (bareR m.r)))
      replace hr1 := Lib.hid hr1
      have q4 : w2.cell? ⟨w.heap.size, 5, none⟩ = some (.int .i64 m.r.bal) := hB3.out.cell_ rfl
      have q5 : w2.cell? ⟨w.heap.size, 6, none⟩ = some (.int .i64 m.r.st) := hB3.out.cell_ rfl
      have q6 : w2.cell? ⟨w.heap.size, 7, none⟩ = some (.int .i64 m.r.by_) := hB3.out.cell_ rfl
      by_cases hpl : m.r.st = 0 ∧ m.r.by_ = 0 ∧ 0 ≤ m.r.bal ∧ m.r.bal ≤ 1000000
      case neg =>
        have hres3 : rightM m = false := by rw [hres2]; unfold plainB; rw [decide_eq_false hpl] <;> rfl
        replace hres3 := Lib.hid hres3
        clear hres2
        have hst := m.r.st
        have e1 : ¬ m.r.st = 0 ∨ (m.r.st = 0 ∧ ¬ m.r.by_ = 0) ∨ (m.r.st = 0 ∧ m.r.by_ = 0 ∧ ¬ 0 ≤ m.r.bal) ∨ (m.r.st = 0 ∧ m.r.by_ = 0 ∧ 0 ≤ m.r.bal ∧ ¬ m.r.bal ≤ 1000000) := by omega
        clear hpl hst
        rcases e1 with c | ⟨ca, c⟩ | ⟨ca, cb, c⟩ | ⟨ca, cb, cc, c⟩
        · go_wp2_with fail
          go_ret
          exact ⟨by rw [hres3.out] <;> rfl, hM2.out⟩
        · rw [ca] at q5
          go_wp2_with fail
          go_ret
          exact ⟨by rw [hres3.out] <;> rfl, hM2.out⟩
        · rw [ca] at q5
          rw [cb] at q6
          go_wp2_with fail
          go_ret
          exact ⟨by rw [hres3.out] <;> rfl, hM2.out⟩
        · rw [ca] at q5
          rw [cb] at q6
          go_wp2_with fail
          go_ret
          exact ⟨by rw [hres3.out] <;> rfl, hM2.out⟩
      case pos =>
      have hres3 : rightM m = rightR (bareR m.r) := by rw [hres2]; unfold plainB; rw [decide_eq_true hpl] <;> rfl
      obtain ⟨ca, cb, cc, c⟩ := hpl
      rw [ca] at q5
      rw [cb] at q6
      replace hres3 := Lib.hid hres3
      replace ca := Lib.hid ca
      replace cb := Lib.hid cb
      clear hres2
      go_wp2_with (first
        | (show wpList _ _ _ (⟨some 60, _, _, _, _, _⟩ :: _) _ _; go_loud (refine wp_load_msg (by rfl) (.tmp 1) rfl w.heap.size rfl hB3.out rfl ?_)))
      with_reducible refine (kp.out _).mono ?_
      rintro e' w3 ⟨rfl, hm3⟩
      dsimp only
      have hM3 := Lib.hid (hM2.out.trans hm3)
      have k2x := Lib.hid (k2.out w3 hM3.out)
      clear hm3
      go_wp2_with fail
      with_reducible refine k2x.out.mono ?_
      rintro e' w4 ⟨rfl, hm4⟩
      dsimp only
      have hM4 := Lib.hid (hM3.out.trans hm4)
      clear hm4
      have hbr : rightR ⟨m.r.i, 0, 3, 0, m.r.e⟩ = rightR (bareR m.r) := rfl
      rw [hbr]
      generalize rightR (bareR m.r) = z at *
      replace hbr := Lib.hid hbr
      go_wp2_with fail
      go_ret
      exact ⟨by rw [hres3.out] <;> rfl, hM4.out⟩
set_option maxRecDepth 100000 in
set_option maxHeartbeats 8000000 in
theorem same17_eq (w : World) (m : Mg) (L D M E : SV) (ha : EnM w m.r.e L D) (hb : EnM w m.r.e M E) (hL : L.n ≤ 140737488355328) (hD : D.n ≤ 140737488355328) :
    Calls Tryz.prog 11 #[.agg #[.int .i64 m.frm, .int .i64 m.to, .int .i64 m.kind, .int .i64 m.r.i.r, .int .i64 m.r.i.n, .int .i64 m.r.bal, .int .i64 m.r.st, .int .i64 m.r.by_, .int .i64 m.r.e.o.c, .int .i64 m.r.e.o.s, .int .i64 m.r.e.o.k, .string (txt m.r.e.o.acct), .string (txt m.r.e.o.peer), .int .i64 m.r.e.o.sum, .slice L.a L.n L.c, .int .i64 m.r.e.o.per, .int .i64 m.r.e.o.hold, .string (txt m.r.e.o.note), .bool m.r.e.none, .slice D.a D.n D.c], .agg #[.int .i64 m.frm, .int .i64 m.to, .int .i64 m.kind, .int .i64 m.r.i.r, .int .i64 m.r.i.n, .int .i64 m.r.bal, .int .i64 m.r.st, .int .i64 m.r.by_, .int .i64 m.r.e.o.c, .int .i64 m.r.e.o.s, .int .i64 m.r.e.o.k, .string (txt m.r.e.o.acct), .string (txt m.r.e.o.peer), .int .i64 m.r.e.o.sum, .slice M.a M.n M.c, .int .i64 m.r.e.o.per, .int .i64 m.r.e.o.hold, .string (txt m.r.e.o.note), .bool m.r.e.none, .slice E.a E.n E.c]] w fun e w' => e = .returned (.bool true) ∧ Mod none_ w w' := by
  have k14 := Lib.hid (fun W (h : Mod none_ w W) => same14_eq W m.r.e L D M E (ha.mod0 h) (hb.mod0 h) hL hD)
  have hei := fun W => eql_is W m.r.i m.r.i
  unfold isV at hei
  rw [decide_eq_true rfl] at hei
  have hm0 := Lib.hid (((Mod.refl none_ w).alloc (.cells #[.int .i64 m.frm, .int .i64 m.to, .int .i64 m.kind, .int .i64 m.r.i.r, .int .i64 m.r.i.n, .int .i64 m.r.bal, .int .i64 m.r.st, .int .i64 m.r.by_, .int .i64 m.r.e.o.c, .int .i64 m.r.e.o.s, .int .i64 m.r.e.o.k, .string (txt m.r.e.o.acct), .string (txt m.r.e.o.peer), .int .i64 m.r.e.o.sum, .slice L.a L.n L.c, .int .i64 m.r.e.o.per, .int .i64 m.r.e.o.hold, .string (txt m.r.e.o.note), .bool m.r.e.none, .slice D.a D.n D.c] 46)).alloc (.cells #[.int .i64 m.frm, .int .i64 m.to, .int .i64 m.kind, .int .i64 m.r.i.r, .int .i64 m.r.i.n, .int .i64 m.r.bal, .int .i64 m.r.st, .int .i64 m.r.by_, .int .i64 m.r.e.o.c, .int .i64 m.r.e.o.s, .int .i64 m.r.e.o.k, .string (txt m.r.e.o.acct), .string (txt m.r.e.o.peer), .int .i64 m.r.e.o.sum, .slice M.a M.n M.c, .int .i64 m.r.e.o.per, .int .i64 m.r.e.o.hold, .string (txt m.r.e.o.note), .bool m.r.e.none, .slice E.a E.n E.c] 46))
  replace ha := Lib.hid ha
  replace hb := Lib.hid hb
  go_enter Tryz.func11, Tryz.ntmps11
  go_wp2_with fail
  with_reducible refine (k14.out _ hm0.out).mono ?_
  rintro e w1 ⟨rfl, hm1⟩
  dsimp only
  have hM1 := Lib.hid (hm0.out.trans hm1)
  clear hm1
  go_wp2_with fail
  go_ret
  exact ⟨rfl, hM1.out⟩
end Go.Proofs.YtdekehhmjehicaaGreat
