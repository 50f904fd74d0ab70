import Derived.Test.YtimlfdihodoolaaGreatZp14
import Derived.Test.YtimlfdihodoolaaGreatZp15
import Derived.Test.YtimlfdihodoolaaGreatZp7
/-
  The reference's order.Right: kinds but Post. No condition.
-/
namespace Go.Proofs.YtimlfdihodoolaaGreat
set_option linter.unusedVariables false
set_option linter.unusedSimpArgs false
open Go.RowKit
set_option maxRecDepth 100000 in
set_option maxHeartbeats 8000000 in
theorem r06_no (w : World) (o : Od) (L : SV) (h : o.c < 0 ∨ 9 < o.c ∨ o.s < 1 ∨ 999 < o.s ∨ o.k < 1 ∨ 7 < o.k) :
    Calls Tryz.prog 48 #[.agg #[.int .i64 o.c, .int .i64 o.s, .int .i64 o.k, .string (txt o.acct), .string (txt o.peer), .int .i64 o.sum, .slice L.a L.n L.c, .int .i64 o.per, .int .i64 o.hold, .string (txt o.note)]] w fun e w' => e = .returned (.bool false) ∧ Mod none_ w w' := by
  replace h := Lib.hid h
  have hB0 := Lib.hid (Blk.new w 30 #[.int .i64 o.c, .int .i64 o.s, .int .i64 o.k, .string (txt o.acct), .string (txt o.peer), .int .i64 o.sum, .slice L.a L.n L.c, .int .i64 o.per, .int .i64 o.hold, .string (txt o.note)])
  have hm0 := Lib.hid ((Mod.refl none_ w).alloc (.cells #[.int .i64 o.c, .int .i64 o.s, .int .i64 o.k, .string (txt o.acct), .string (txt o.peer), .int .i64 o.sum, .slice L.a L.n L.c, .int .i64 o.per, .int .i64 o.hold, .string (txt o.note)] 30))
  go_enter Tryz.func48, Tryz.ntmps48
  go_upto_region 1 with fail
  obtain ⟨W0, hW0⟩ : ∃ W0, W0 = (w.alloc (.cells #[.int .i64 o.c, .int .i64 o.s, .int .i64 o.k, .string (txt o.acct), .string (txt o.peer), .int .i64 o.sum, .slice L.a L.n L.c, .int .i64 o.per, .int .i64 o.hold, .string (txt o.note)] 30)) := ⟨_, rfl⟩
  rw [← hW0] at hB0 hm0 ⊢
  replace hW0 := Lib.hid hW0
  have hcne : Nonempty (Cls (Mod none_ W0)) := ⟨⟨_, Mod.refl _ _⟩⟩
  have u2 : W0.cell? ⟨w.heap.size, 2, none⟩ = some (.int .i64 o.k) := hB0.out.cell_ rfl
  have g0 : ∀ s : Cls (Mod none_ W0), s.W.cell? ⟨w.heap.size, 0, none⟩ = some (.int .i64 o.c) := fun s => (hB0.out.mod s.ok (fun h => h)).cell_ rfl
  have g1 : ∀ s : Cls (Mod none_ W0), s.W.cell? ⟨w.heap.size, 1, none⟩ = some (.int .i64 o.s) := fun s => (hB0.out.mod s.ok (fun h => h)).cell_ rfl
  have g2 : ∀ s : Cls (Mod none_ W0), s.W.cell? ⟨w.heap.size, 2, none⟩ = some (.int .i64 o.k) := fun s => (hB0.out.mod s.ok (fun h => h)).cell_ rfl
  have g3 : ∀ s : Cls (Mod none_ W0), s.W.cell? ⟨w.heap.size, 3, none⟩ = some (.string (txt o.acct)) := fun s => (hB0.out.mod s.ok (fun h => h)).cell_ rfl
  have g4 : ∀ s : Cls (Mod none_ W0), s.W.cell? ⟨w.heap.size, 4, none⟩ = some (.string (txt o.peer)) := fun s => (hB0.out.mod s.ok (fun h => h)).cell_ rfl
  have g5 : ∀ s : Cls (Mod none_ W0), s.W.cell? ⟨w.heap.size, 5, none⟩ = some (.int .i64 o.sum) := fun s => (hB0.out.mod s.ok (fun h => h)).cell_ rfl
  have g6 : ∀ s : Cls (Mod none_ W0), s.W.cell? ⟨w.heap.size, 6, none⟩ = some (.slice L.a L.n L.c) := fun s => (hB0.out.mod s.ok (fun h => h)).cell_ rfl
  have g7 : ∀ s : Cls (Mod none_ W0), s.W.cell? ⟨w.heap.size, 7, none⟩ = some (.int .i64 o.per) := fun s => (hB0.out.mod s.ok (fun h => h)).cell_ rfl
  have g8 : ∀ s : Cls (Mod none_ W0), s.W.cell? ⟨w.heap.size, 8, none⟩ = some (.int .i64 o.hold) := fun s => (hB0.out.mod s.ok (fun h => h)).cell_ rfl
  have g9 : ∀ s : Cls (Mod none_ W0), s.W.cell? ⟨w.heap.size, 9, none⟩ = some (.string (txt o.note)) := fun s => (hB0.out.mod s.ok (fun h => h)).cell_ rfl
  go_wp2_with fail
  by_cases c0 : o.c < 0
  · have d0 : decide (o.c < 0) = true := decide_eq_true c0
    replace c0 := Lib.hid c0
    refine wp_region_cls (Mod none_ W0) (by kernel_rfl) (by kernel_rfl) (Mod.refl none_ _).drew ?_
    try simp only [List.append_eq, List.cons_append, List.nil_append]
    repeat (go_big_quiet_step (fail))
    refine wpQuiet_nil ?_
    rintro W1 ⟨⟨_, hW1⟩, rfl⟩
    replace hW1 := Lib.hid (hm0.out.trans hW1)
    go_wp2_with fail
    go_ret
    exact ⟨rfl, hW1.out⟩
  have d0 : decide (o.c < 0) = false := decide_eq_false c0
  replace c0 := Lib.hid c0
  by_cases c1 : 9 < o.c
  · have d1 : decide (9 < o.c) = true := decide_eq_true c1
    replace c1 := Lib.hid c1
    refine wp_region_cls (Mod none_ W0) (by kernel_rfl) (by kernel_rfl) (Mod.refl none_ _).drew ?_
    try simp only [List.append_eq, List.cons_append, List.nil_append]
    repeat (go_big_quiet_step (fail))
    refine wpQuiet_nil ?_
    rintro W1 ⟨⟨_, hW1⟩, rfl⟩
    replace hW1 := Lib.hid (hm0.out.trans hW1)
    go_wp2_with fail
    go_ret
    exact ⟨rfl, hW1.out⟩
  have d1 : decide (9 < o.c) = false := decide_eq_false c1
  replace c1 := Lib.hid c1
  by_cases c2 : o.s < 1
  · have d2 : decide (o.s < 1) = true := decide_eq_true c2
    replace c2 := Lib.hid c2
    refine wp_region_cls (Mod none_ W0) (by kernel_rfl) (by kernel_rfl) (Mod.refl none_ _).drew ?_
    try simp only [List.append_eq, List.cons_append, List.nil_append]
    repeat (go_big_quiet_step (fail))
    refine wpQuiet_nil ?_
    rintro W1 ⟨⟨_, hW1⟩, rfl⟩
    replace hW1 := Lib.hid (hm0.out.trans hW1)
    go_wp2_with fail
    go_ret
    exact ⟨rfl, hW1.out⟩
  have d2 : decide (o.s < 1) = false := decide_eq_false c2
  replace c2 := Lib.hid c2
  by_cases c3 : 999 < o.s
  · have d3 : decide (999 < o.s) = true := decide_eq_true c3
    replace c3 := Lib.hid c3
    refine wp_region_cls (Mod none_ W0) (by kernel_rfl) (by kernel_rfl) (Mod.refl none_ _).drew ?_
    try simp only [List.append_eq, List.cons_append, List.nil_append]
    repeat (go_big_quiet_step (fail))
    refine wpQuiet_nil ?_
    rintro W1 ⟨⟨_, hW1⟩, rfl⟩
    replace hW1 := Lib.hid (hm0.out.trans hW1)
    go_wp2_with fail
    go_ret
    exact ⟨rfl, hW1.out⟩
  have d3 : decide (999 < o.s) = false := decide_eq_false c3
  replace c3 := Lib.hid c3
  by_cases c4 : o.k < 1
  · have d4 : decide (o.k < 1) = true := decide_eq_true c4
    replace c4 := Lib.hid c4
    refine wp_region_cls (Mod none_ W0) (by kernel_rfl) (by kernel_rfl) (Mod.refl none_ _).drew ?_
    try simp only [List.append_eq, List.cons_append, List.nil_append]
    repeat (go_big_quiet_step (fail))
    refine wpQuiet_nil ?_
    rintro W1 ⟨⟨_, hW1⟩, rfl⟩
    replace hW1 := Lib.hid (hm0.out.trans hW1)
    go_wp2_with fail
    go_ret
    exact ⟨rfl, hW1.out⟩
  have d4 : decide (o.k < 1) = false := decide_eq_false c4
  replace c4 := Lib.hid c4
  by_cases c5 : 7 < o.k
  · have d5 : decide (7 < o.k) = true := decide_eq_true c5
    replace c5 := Lib.hid c5
    refine wp_region_cls (Mod none_ W0) (by kernel_rfl) (by kernel_rfl) (Mod.refl none_ _).drew ?_
    try simp only [List.append_eq, List.cons_append, List.nil_append]
    repeat (go_big_quiet_step (fail))
    refine wpQuiet_nil ?_
    rintro W1 ⟨⟨_, hW1⟩, rfl⟩
    replace hW1 := Lib.hid (hm0.out.trans hW1)
    go_wp2_with fail
    go_ret
    exact ⟨rfl, hW1.out⟩
  have d5 : decide (7 < o.k) = false := decide_eq_false c5
  replace c5 := Lib.hid c5
  exfalso
  have := h.out
  have := c0.out; have := c1.out; have := c2.out; have := c3.out; have := c4.out; have := c5.out
  omega
set_option maxRecDepth 100000 in
set_option maxHeartbeats 8000000 in
theorem r06_1 (w : World) (o : Od) (L : SV) (hO : OdM w o L) (hL : L.n ≤ 140737488355328) (hk : o.k = 1) (hi : 0 ≤ o.c ∧ o.c ≤ 9 ∧ 1 ≤ o.s ∧ o.s ≤ 999) (ta : (txt o.acct).size ≤ maxLen) (tp : (txt o.peer).size ≤ maxLen) :
    Calls Tryz.prog 48 #[.agg #[.int .i64 o.c, .int .i64 o.s, .int .i64 o.k, .string (txt o.acct), .string (txt o.peer), .int .i64 o.sum, .slice L.a L.n L.c, .int .i64 o.per, .int .i64 o.hold, .string (txt o.note)]] w fun e w' => e = .returned (.bool (decide (o = bare1 o) && fits1 o)) ∧ Mod none_ w w' := by
  obtain ⟨b, hb⟩ : ∃ b, b = bare1 o := ⟨_, rfl⟩
  rw [← hb, hk]
  have hOb : ∀ W, OdM W b ⟨none, 0, 0⟩ := fun W => by rw [hb]; exact ⟨Rd.none_, Nat.le_refl _⟩
  have kN := Lib.hid (fun W => rname_ok W (txt o.acct) ta)
  have kP := Lib.hid (fun W => rname_ok W (txt o.peer) tp)
  have d0 : decide (o.c < 0) = false := decide_eq_false (by omega)
  have d1 : decide (9 < o.c) = false := decide_eq_false (by omega)
  have d2 : decide (o.s < 1) = false := decide_eq_false (by omega)
  have d3 : decide (999 < o.s) = false := decide_eq_false (by omega)
  replace hO := Lib.hid hO
  replace hb := Lib.hid hb
  replace hOb := Lib.hid hOb
  replace hk := Lib.hid hk
  replace hi := Lib.hid hi
  replace ta := Lib.hid ta
  replace tp := Lib.hid tp
  by_cases hob : o = b
  · rw [decide_eq_true hob, Bool.true_and]
    replace hob := Lib.hid hob
    have hB0 := Lib.hid (Blk.new w 30 #[.int .i64 o.c, .int .i64 o.s, .int .i64 1, .string (txt o.acct), .string (txt o.peer), .int .i64 o.sum, .slice L.a L.n L.c, .int .i64 o.per, .int .i64 o.hold, .string (txt o.note)])
    have hm0 := Lib.hid ((Mod.refl none_ w).alloc (.cells #[.int .i64 o.c, .int .i64 o.s, .int .i64 1, .string (txt o.acct), .string (txt o.peer), .int .i64 o.sum, .slice L.a L.n L.c, .int .i64 o.per, .int .i64 o.hold, .string (txt o.note)] 30))
    go_enter Tryz.func48, Tryz.ntmps48
    go_upto_region 1 with fail
    obtain ⟨W0, hW0⟩ : ∃ W0, W0 = (w.alloc (.cells #[.int .i64 o.c, .int .i64 o.s, .int .i64 1, .string (txt o.acct), .string (txt o.peer), .int .i64 o.sum, .slice L.a L.n L.c, .int .i64 o.per, .int .i64 o.hold, .string (txt o.note)] 30)) := ⟨_, rfl⟩
    rw [← hW0] at hB0 hm0 ⊢
    replace hW0 := Lib.hid hW0
    have hcne : Nonempty (Cls (Mod none_ W0)) := ⟨⟨_, Mod.refl _ _⟩⟩
    have u2 : W0.cell? ⟨w.heap.size, 2, none⟩ = some (.int .i64 1) := hB0.out.cell_ rfl
    have g0 : ∀ s : Cls (Mod none_ W0), s.W.cell? ⟨w.heap.size, 0, none⟩ = some (.int .i64 o.c) := fun s => (hB0.out.mod s.ok (fun h => h)).cell_ rfl
    have g1 : ∀ s : Cls (Mod none_ W0), s.W.cell? ⟨w.heap.size, 1, none⟩ = some (.int .i64 o.s) := fun s => (hB0.out.mod s.ok (fun h => h)).cell_ rfl
    have g2 : ∀ s : Cls (Mod none_ W0), s.W.cell? ⟨w.heap.size, 2, none⟩ = some (.int .i64 1) := fun s => (hB0.out.mod s.ok (fun h => h)).cell_ rfl
    have g3 : ∀ s : Cls (Mod none_ W0), s.W.cell? ⟨w.heap.size, 3, none⟩ = some (.string (txt o.acct)) := fun s => (hB0.out.mod s.ok (fun h => h)).cell_ rfl
    have g4 : ∀ s : Cls (Mod none_ W0), s.W.cell? ⟨w.heap.size, 4, none⟩ = some (.string (txt o.peer)) := fun s => (hB0.out.mod s.ok (fun h => h)).cell_ rfl
    have g5 : ∀ s : Cls (Mod none_ W0), s.W.cell? ⟨w.heap.size, 5, none⟩ = some (.int .i64 o.sum) := fun s => (hB0.out.mod s.ok (fun h => h)).cell_ rfl
    have g6 : ∀ s : Cls (Mod none_ W0), s.W.cell? ⟨w.heap.size, 6, none⟩ = some (.slice L.a L.n L.c) := fun s => (hB0.out.mod s.ok (fun h => h)).cell_ rfl
    have g7 : ∀ s : Cls (Mod none_ W0), s.W.cell? ⟨w.heap.size, 7, none⟩ = some (.int .i64 o.per) := fun s => (hB0.out.mod s.ok (fun h => h)).cell_ rfl
    have g8 : ∀ s : Cls (Mod none_ W0), s.W.cell? ⟨w.heap.size, 8, none⟩ = some (.int .i64 o.hold) := fun s => (hB0.out.mod s.ok (fun h => h)).cell_ rfl
    have g9 : ∀ s : Cls (Mod none_ W0), s.W.cell? ⟨w.heap.size, 9, none⟩ = some (.string (txt o.note)) := fun s => (hB0.out.mod s.ok (fun h => h)).cell_ rfl
    have kb := fun s : Cls (Mod none_ W0) => (rbare_1 s.W o L hk.out b ⟨none, 0, 0⟩ hb.out rfl).mono (fun e w' (h : _ ∧ _) => (⟨h.1, s.ok.trans h.2⟩ : _ ∧ Mod none_ W0 w'))
    have ks := fun s : Cls (Mod none_ W0) => (same6_ok s.W o b L ⟨none, 0, 0⟩ (hO.out.mod0 (hm0.out.trans s.ok)) (hOb.out _) hL (Nat.zero_le _)).mono (fun e w' (h : _ ∧ _) => (⟨h.1, s.ok.trans h.2⟩ : _ ∧ Mod none_ W0 w'))
    rw [hk.out] at kb ks
    replace kb := Lib.hid kb
    rw [decide_eq_true hob.out] at ks
    replace ks := Lib.hid ks
    go_wp2_with fail
    refine wp_region_cls (Mod none_ W0) (by kernel_rfl) (by kernel_rfl) (Mod.refl none_ _).drew ?_
    try simp only [List.append_eq, List.cons_append, List.nil_append]
    repeat (go_big_quiet_step ((first | (go_at_call 75; exact cls_of (kb.out _)) | (go_at_call 57; exact cls_of (ks.out _)))))
    refine wpQuiet_nil ?_
    rintro W1 ⟨⟨_, hW1⟩, rfl⟩
    have hB1 := Lib.hid (hB0.out.mod hW1 (fun h => h))
    replace hW1 := Lib.hid (hm0.out.trans hW1)
    have v2 : W1.cell? ⟨w.heap.size, 2, none⟩ = some (.int .i64 1) := hB1.out.cell_ rfl
    have v3 : W1.cell? ⟨w.heap.size, 3, none⟩ = some (.string (txt o.acct)) := hB1.out.cell_ rfl
    have v4 : W1.cell? ⟨w.heap.size, 4, none⟩ = some (.string (txt o.peer)) := hB1.out.cell_ rfl
    have v5 : W1.cell? ⟨w.heap.size, 5, none⟩ = some (.int .i64 o.sum) := hB1.out.cell_ rfl
    have v6 : W1.cell? ⟨w.heap.size, 6, none⟩ = some (.slice L.a L.n L.c) := hB1.out.cell_ rfl
    have v7 : W1.cell? ⟨w.heap.size, 7, none⟩ = some (.int .i64 o.per) := hB1.out.cell_ rfl
    have v8 : W1.cell? ⟨w.heap.size, 8, none⟩ = some (.int .i64 o.hold) := hB1.out.cell_ rfl
    have v9 : W1.cell? ⟨w.heap.size, 9, none⟩ = some (.string (txt o.note)) := hB1.out.cell_ rfl
    clear g0 g1 g2 g3 g4 g5 g6 g7 g8 g9 kb ks u2
    go_wp2_with fail
    with_reducible refine (kN.out _).mono ?_
    rintro e w2 ⟨rfl, hw2⟩
    dsimp only
    cases hw2
    rw [show (txt o.acct).data.toList = o.acct by simp [txt]]
    cases hn : nameB o.acct
    all_goals
      go_wp2_with fail
      all_goals (go_ret; refine ⟨?_, hW1.out⟩; unfold fits1; first | (simp_all [periodB, heldB]; done) | (simp_all [periodB, heldB]; omega))
  · rw [decide_eq_false hob, Bool.false_and]
    replace hob := Lib.hid hob
    have hB0 := Lib.hid (Blk.new w 30 #[.int .i64 o.c, .int .i64 o.s, .int .i64 1, .string (txt o.acct), .string (txt o.peer), .int .i64 o.sum, .slice L.a L.n L.c, .int .i64 o.per, .int .i64 o.hold, .string (txt o.note)])
    have hm0 := Lib.hid ((Mod.refl none_ w).alloc (.cells #[.int .i64 o.c, .int .i64 o.s, .int .i64 1, .string (txt o.acct), .string (txt o.peer), .int .i64 o.sum, .slice L.a L.n L.c, .int .i64 o.per, .int .i64 o.hold, .string (txt o.note)] 30))
    go_enter Tryz.func48, Tryz.ntmps48
    go_upto_region 1 with fail
    obtain ⟨W0, hW0⟩ : ∃ W0, W0 = (w.alloc (.cells #[.int .i64 o.c, .int .i64 o.s, .int .i64 1, .string (txt o.acct), .string (txt o.peer), .int .i64 o.sum, .slice L.a L.n L.c, .int .i64 o.per, .int .i64 o.hold, .string (txt o.note)] 30)) := ⟨_, rfl⟩
    rw [← hW0] at hB0 hm0 ⊢
    replace hW0 := Lib.hid hW0
    have hcne : Nonempty (Cls (Mod none_ W0)) := ⟨⟨_, Mod.refl _ _⟩⟩
    have u2 : W0.cell? ⟨w.heap.size, 2, none⟩ = some (.int .i64 1) := hB0.out.cell_ rfl
    have g0 : ∀ s : Cls (Mod none_ W0), s.W.cell? ⟨w.heap.size, 0, none⟩ = some (.int .i64 o.c) := fun s => (hB0.out.mod s.ok (fun h => h)).cell_ rfl
    have g1 : ∀ s : Cls (Mod none_ W0), s.W.cell? ⟨w.heap.size, 1, none⟩ = some (.int .i64 o.s) := fun s => (hB0.out.mod s.ok (fun h => h)).cell_ rfl
    have g2 : ∀ s : Cls (Mod none_ W0), s.W.cell? ⟨w.heap.size, 2, none⟩ = some (.int .i64 1) := fun s => (hB0.out.mod s.ok (fun h => h)).cell_ rfl
    have g3 : ∀ s : Cls (Mod none_ W0), s.W.cell? ⟨w.heap.size, 3, none⟩ = some (.string (txt o.acct)) := fun s => (hB0.out.mod s.ok (fun h => h)).cell_ rfl
    have g4 : ∀ s : Cls (Mod none_ W0), s.W.cell? ⟨w.heap.size, 4, none⟩ = some (.string (txt o.peer)) := fun s => (hB0.out.mod s.ok (fun h => h)).cell_ rfl
    have g5 : ∀ s : Cls (Mod none_ W0), s.W.cell? ⟨w.heap.size, 5, none⟩ = some (.int .i64 o.sum) := fun s => (hB0.out.mod s.ok (fun h => h)).cell_ rfl
    have g6 : ∀ s : Cls (Mod none_ W0), s.W.cell? ⟨w.heap.size, 6, none⟩ = some (.slice L.a L.n L.c) := fun s => (hB0.out.mod s.ok (fun h => h)).cell_ rfl
    have g7 : ∀ s : Cls (Mod none_ W0), s.W.cell? ⟨w.heap.size, 7, none⟩ = some (.int .i64 o.per) := fun s => (hB0.out.mod s.ok (fun h => h)).cell_ rfl
    have g8 : ∀ s : Cls (Mod none_ W0), s.W.cell? ⟨w.heap.size, 8, none⟩ = some (.int .i64 o.hold) := fun s => (hB0.out.mod s.ok (fun h => h)).cell_ rfl
    have g9 : ∀ s : Cls (Mod none_ W0), s.W.cell? ⟨w.heap.size, 9, none⟩ = some (.string (txt o.note)) := fun s => (hB0.out.mod s.ok (fun h => h)).cell_ rfl
    have kb := fun s : Cls (Mod none_ W0) => (rbare_1 s.W o L hk.out b ⟨none, 0, 0⟩ hb.out rfl).mono (fun e w' (h : _ ∧ _) => (⟨h.1, s.ok.trans h.2⟩ : _ ∧ Mod none_ W0 w'))
    have ks := fun s : Cls (Mod none_ W0) => (same6_ok s.W o b L ⟨none, 0, 0⟩ (hO.out.mod0 (hm0.out.trans s.ok)) (hOb.out _) hL (Nat.zero_le _)).mono (fun e w' (h : _ ∧ _) => (⟨h.1, s.ok.trans h.2⟩ : _ ∧ Mod none_ W0 w'))
    rw [hk.out] at kb ks
    replace kb := Lib.hid kb
    rw [decide_eq_false hob.out] at ks
    replace ks := Lib.hid ks
    go_wp2_with fail
    refine wp_region_cls (Mod none_ W0) (by kernel_rfl) (by kernel_rfl) (Mod.refl none_ _).drew ?_
    try simp only [List.append_eq, List.cons_append, List.nil_append]
    repeat (go_big_quiet_step ((first | (go_at_call 75; exact cls_of (kb.out _)) | (go_at_call 57; exact cls_of (ks.out _)))))
    refine wpQuiet_nil ?_
    rintro W1 ⟨⟨_, hW1⟩, rfl⟩
    have hB1 := Lib.hid (hB0.out.mod hW1 (fun h => h))
    replace hW1 := Lib.hid (hm0.out.trans hW1)
    go_wp2_with fail
    go_ret
    exact ⟨rfl, hW1.out⟩
set_option maxRecDepth 100000 in
set_option maxHeartbeats 8000000 in
theorem r06_3 (w : World) (o : Od) (L : SV) (hO : OdM w o L) (hL : L.n ≤ 140737488355328) (hk : o.k = 3) (hi : 0 ≤ o.c ∧ o.c ≤ 9 ∧ 1 ≤ o.s ∧ o.s ≤ 999) (ta : (txt o.acct).size ≤ maxLen) (tp : (txt o.peer).size ≤ maxLen) :
    Calls Tryz.prog 48 #[.agg #[.int .i64 o.c, .int .i64 o.s, .int .i64 o.k, .string (txt o.acct), .string (txt o.peer), .int .i64 o.sum, .slice L.a L.n L.c, .int .i64 o.per, .int .i64 o.hold, .string (txt o.note)]] w fun e w' => e = .returned (.bool (decide (o = bare3 o) && fits3 o)) ∧ Mod none_ w w' := by
  obtain ⟨b, hb⟩ : ∃ b, b = bare3 o := ⟨_, rfl⟩
  rw [← hb, hk]
  have hOb : ∀ W, OdM W b ⟨none, 0, 0⟩ := fun W => by rw [hb]; exact ⟨Rd.none_, Nat.le_refl _⟩
  have kN := Lib.hid (fun W => rname_ok W (txt o.acct) ta)
  have kP := Lib.hid (fun W => rname_ok W (txt o.peer) tp)
  have d0 : decide (o.c < 0) = false := decide_eq_false (by omega)
  have d1 : decide (9 < o.c) = false := decide_eq_false (by omega)
  have d2 : decide (o.s < 1) = false := decide_eq_false (by omega)
  have d3 : decide (999 < o.s) = false := decide_eq_false (by omega)
  replace hO := Lib.hid hO
  replace hb := Lib.hid hb
  replace hOb := Lib.hid hOb
  replace hk := Lib.hid hk
  replace hi := Lib.hid hi
  replace ta := Lib.hid ta
  replace tp := Lib.hid tp
  by_cases hob : o = b
  · rw [decide_eq_true hob, Bool.true_and]
    replace hob := Lib.hid hob
    have hB0 := Lib.hid (Blk.new w 30 #[.int .i64 o.c, .int .i64 o.s, .int .i64 3, .string (txt o.acct), .string (txt o.peer), .int .i64 o.sum, .slice L.a L.n L.c, .int .i64 o.per, .int .i64 o.hold, .string (txt o.note)])
    have hm0 := Lib.hid ((Mod.refl none_ w).alloc (.cells #[.int .i64 o.c, .int .i64 o.s, .int .i64 3, .string (txt o.acct), .string (txt o.peer), .int .i64 o.sum, .slice L.a L.n L.c, .int .i64 o.per, .int .i64 o.hold, .string (txt o.note)] 30))
    go_enter Tryz.func48, Tryz.ntmps48
    go_upto_region 1 with fail
    obtain ⟨W0, hW0⟩ : ∃ W0, W0 = (w.alloc (.cells #[.int .i64 o.c, .int .i64 o.s, .int .i64 3, .string (txt o.acct), .string (txt o.peer), .int .i64 o.sum, .slice L.a L.n L.c, .int .i64 o.per, .int .i64 o.hold, .string (txt o.note)] 30)) := ⟨_, rfl⟩
    rw [← hW0] at hB0 hm0 ⊢
    replace hW0 := Lib.hid hW0
    have hcne : Nonempty (Cls (Mod none_ W0)) := ⟨⟨_, Mod.refl _ _⟩⟩
    have u2 : W0.cell? ⟨w.heap.size, 2, none⟩ = some (.int .i64 3) := hB0.out.cell_ rfl
    have g0 : ∀ s : Cls (Mod none_ W0), s.W.cell? ⟨w.heap.size, 0, none⟩ = some (.int .i64 o.c) := fun s => (hB0.out.mod s.ok (fun h => h)).cell_ rfl
    have g1 : ∀ s : Cls (Mod none_ W0), s.W.cell? ⟨w.heap.size, 1, none⟩ = some (.int .i64 o.s) := fun s => (hB0.out.mod s.ok (fun h => h)).cell_ rfl
    have g2 : ∀ s : Cls (Mod none_ W0), s.W.cell? ⟨w.heap.size, 2, none⟩ = some (.int .i64 3) := fun s => (hB0.out.mod s.ok (fun h => h)).cell_ rfl
    have g3 : ∀ s : Cls (Mod none_ W0), s.W.cell? ⟨w.heap.size, 3, none⟩ = some (.string (txt o.acct)) := fun s => (hB0.out.mod s.ok (fun h => h)).cell_ rfl
    have g4 : ∀ s : Cls (Mod none_ W0), s.W.cell? ⟨w.heap.size, 4, none⟩ = some (.string (txt o.peer)) := fun s => (hB0.out.mod s.ok (fun h => h)).cell_ rfl
    have g5 : ∀ s : Cls (Mod none_ W0), s.W.cell? ⟨w.heap.size, 5, none⟩ = some (.int .i64 o.sum) := fun s => (hB0.out.mod s.ok (fun h => h)).cell_ rfl
    have g6 : ∀ s : Cls (Mod none_ W0), s.W.cell? ⟨w.heap.size, 6, none⟩ = some (.slice L.a L.n L.c) := fun s => (hB0.out.mod s.ok (fun h => h)).cell_ rfl
    have g7 : ∀ s : Cls (Mod none_ W0), s.W.cell? ⟨w.heap.size, 7, none⟩ = some (.int .i64 o.per) := fun s => (hB0.out.mod s.ok (fun h => h)).cell_ rfl
    have g8 : ∀ s : Cls (Mod none_ W0), s.W.cell? ⟨w.heap.size, 8, none⟩ = some (.int .i64 o.hold) := fun s => (hB0.out.mod s.ok (fun h => h)).cell_ rfl
    have g9 : ∀ s : Cls (Mod none_ W0), s.W.cell? ⟨w.heap.size, 9, none⟩ = some (.string (txt o.note)) := fun s => (hB0.out.mod s.ok (fun h => h)).cell_ rfl
    have kb := fun s : Cls (Mod none_ W0) => (rbare_3 s.W o L hk.out b ⟨none, 0, 0⟩ hb.out rfl).mono (fun e w' (h : _ ∧ _) => (⟨h.1, s.ok.trans h.2⟩ : _ ∧ Mod none_ W0 w'))
    have ks := fun s : Cls (Mod none_ W0) => (same6_ok s.W o b L ⟨none, 0, 0⟩ (hO.out.mod0 (hm0.out.trans s.ok)) (hOb.out _) hL (Nat.zero_le _)).mono (fun e w' (h : _ ∧ _) => (⟨h.1, s.ok.trans h.2⟩ : _ ∧ Mod none_ W0 w'))
    rw [hk.out] at kb ks
    replace kb := Lib.hid kb
    rw [decide_eq_true hob.out] at ks
    replace ks := Lib.hid ks
    go_wp2_with fail
    refine wp_region_cls (Mod none_ W0) (by kernel_rfl) (by kernel_rfl) (Mod.refl none_ _).drew ?_
    try simp only [List.append_eq, List.cons_append, List.nil_append]
    repeat (go_big_quiet_step ((first | (go_at_call 75; exact cls_of (kb.out _)) | (go_at_call 57; exact cls_of (ks.out _)))))
    refine wpQuiet_nil ?_
    rintro W1 ⟨⟨_, hW1⟩, rfl⟩
    have hB1 := Lib.hid (hB0.out.mod hW1 (fun h => h))
    replace hW1 := Lib.hid (hm0.out.trans hW1)
    have v2 : W1.cell? ⟨w.heap.size, 2, none⟩ = some (.int .i64 3) := hB1.out.cell_ rfl
    have v3 : W1.cell? ⟨w.heap.size, 3, none⟩ = some (.string (txt o.acct)) := hB1.out.cell_ rfl
    have v4 : W1.cell? ⟨w.heap.size, 4, none⟩ = some (.string (txt o.peer)) := hB1.out.cell_ rfl
    have v5 : W1.cell? ⟨w.heap.size, 5, none⟩ = some (.int .i64 o.sum) := hB1.out.cell_ rfl
    have v6 : W1.cell? ⟨w.heap.size, 6, none⟩ = some (.slice L.a L.n L.c) := hB1.out.cell_ rfl
    have v7 : W1.cell? ⟨w.heap.size, 7, none⟩ = some (.int .i64 o.per) := hB1.out.cell_ rfl
    have v8 : W1.cell? ⟨w.heap.size, 8, none⟩ = some (.int .i64 o.hold) := hB1.out.cell_ rfl
    have v9 : W1.cell? ⟨w.heap.size, 9, none⟩ = some (.string (txt o.note)) := hB1.out.cell_ rfl
    clear g0 g1 g2 g3 g4 g5 g6 g7 g8 g9 kb ks u2
    go_wp2_with fail
    with_reducible refine (kN.out _).mono ?_
    rintro e w2 ⟨rfl, hw2⟩
    dsimp only
    cases hw2
    rw [show (txt o.acct).data.toList = o.acct by simp [txt]]
    cases hn : nameB o.acct
    all_goals
      go_wp2_with fail
      all_goals (go_ret; refine ⟨?_, hW1.out⟩; unfold fits3; first | (simp_all [periodB, heldB]; done) | (simp_all [periodB, heldB]; omega))
  · rw [decide_eq_false hob, Bool.false_and]
    replace hob := Lib.hid hob
    have hB0 := Lib.hid (Blk.new w 30 #[.int .i64 o.c, .int .i64 o.s, .int .i64 3, .string (txt o.acct), .string (txt o.peer), .int .i64 o.sum, .slice L.a L.n L.c, .int .i64 o.per, .int .i64 o.hold, .string (txt o.note)])
    have hm0 := Lib.hid ((Mod.refl none_ w).alloc (.cells #[.int .i64 o.c, .int .i64 o.s, .int .i64 3, .string (txt o.acct), .string (txt o.peer), .int .i64 o.sum, .slice L.a L.n L.c, .int .i64 o.per, .int .i64 o.hold, .string (txt o.note)] 30))
    go_enter Tryz.func48, Tryz.ntmps48
    go_upto_region 1 with fail
    obtain ⟨W0, hW0⟩ : ∃ W0, W0 = (w.alloc (.cells #[.int .i64 o.c, .int .i64 o.s, .int .i64 3, .string (txt o.acct), .string (txt o.peer), .int .i64 o.sum, .slice L.a L.n L.c, .int .i64 o.per, .int .i64 o.hold, .string (txt o.note)] 30)) := ⟨_, rfl⟩
    rw [← hW0] at hB0 hm0 ⊢
    replace hW0 := Lib.hid hW0
    have hcne : Nonempty (Cls (Mod none_ W0)) := ⟨⟨_, Mod.refl _ _⟩⟩
    have u2 : W0.cell? ⟨w.heap.size, 2, none⟩ = some (.int .i64 3) := hB0.out.cell_ rfl
    have g0 : ∀ s : Cls (Mod none_ W0), s.W.cell? ⟨w.heap.size, 0, none⟩ = some (.int .i64 o.c) := fun s => (hB0.out.mod s.ok (fun h => h)).cell_ rfl
    have g1 : ∀ s : Cls (Mod none_ W0), s.W.cell? ⟨w.heap.size, 1, none⟩ = some (.int .i64 o.s) := fun s => (hB0.out.mod s.ok (fun h => h)).cell_ rfl
    have g2 : ∀ s : Cls (Mod none_ W0), s.W.cell? ⟨w.heap.size, 2, none⟩ = some (.int .i64 3) := fun s => (hB0.out.mod s.ok (fun h => h)).cell_ rfl
    have g3 : ∀ s : Cls (Mod none_ W0), s.W.cell? ⟨w.heap.size, 3, none⟩ = some (.string (txt o.acct)) := fun s => (hB0.out.mod s.ok (fun h => h)).cell_ rfl
    have g4 : ∀ s : Cls (Mod none_ W0), s.W.cell? ⟨w.heap.size, 4, none⟩ = some (.string (txt o.peer)) := fun s => (hB0.out.mod s.ok (fun h => h)).cell_ rfl
    have g5 : ∀ s : Cls (Mod none_ W0), s.W.cell? ⟨w.heap.size, 5, none⟩ = some (.int .i64 o.sum) := fun s => (hB0.out.mod s.ok (fun h => h)).cell_ rfl
    have g6 : ∀ s : Cls (Mod none_ W0), s.W.cell? ⟨w.heap.size, 6, none⟩ = some (.slice L.a L.n L.c) := fun s => (hB0.out.mod s.ok (fun h => h)).cell_ rfl
    have g7 : ∀ s : Cls (Mod none_ W0), s.W.cell? ⟨w.heap.size, 7, none⟩ = some (.int .i64 o.per) := fun s => (hB0.out.mod s.ok (fun h => h)).cell_ rfl
    have g8 : ∀ s : Cls (Mod none_ W0), s.W.cell? ⟨w.heap.size, 8, none⟩ = some (.int .i64 o.hold) := fun s => (hB0.out.mod s.ok (fun h => h)).cell_ rfl
    have g9 : ∀ s : Cls (Mod none_ W0), s.W.cell? ⟨w.heap.size, 9, none⟩ = some (.string (txt o.note)) := fun s => (hB0.out.mod s.ok (fun h => h)).cell_ rfl
    have kb := fun s : Cls (Mod none_ W0) => (rbare_3 s.W o L hk.out b ⟨none, 0, 0⟩ hb.out rfl).mono (fun e w' (h : _ ∧ _) => (⟨h.1, s.ok.trans h.2⟩ : _ ∧ Mod none_ W0 w'))
    have ks := fun s : Cls (Mod none_ W0) => (same6_ok s.W o b L ⟨none, 0, 0⟩ (hO.out.mod0 (hm0.out.trans s.ok)) (hOb.out _) hL (Nat.zero_le _)).mono (fun e w' (h : _ ∧ _) => (⟨h.1, s.ok.trans h.2⟩ : _ ∧ Mod none_ W0 w'))
    rw [hk.out] at kb ks
    replace kb := Lib.hid kb
    rw [decide_eq_false hob.out] at ks
    replace ks := Lib.hid ks
    go_wp2_with fail
    refine wp_region_cls (Mod none_ W0) (by kernel_rfl) (by kernel_rfl) (Mod.refl none_ _).drew ?_
    try simp only [List.append_eq, List.cons_append, List.nil_append]
    repeat (go_big_quiet_step ((first | (go_at_call 75; exact cls_of (kb.out _)) | (go_at_call 57; exact cls_of (ks.out _)))))
    refine wpQuiet_nil ?_
    rintro W1 ⟨⟨_, hW1⟩, rfl⟩
    have hB1 := Lib.hid (hB0.out.mod hW1 (fun h => h))
    replace hW1 := Lib.hid (hm0.out.trans hW1)
    go_wp2_with fail
    go_ret
    exact ⟨rfl, hW1.out⟩
set_option maxRecDepth 100000 in
set_option maxHeartbeats 8000000 in
theorem r06_4 (w : World) (o : Od) (L : SV) (hO : OdM w o L) (hL : L.n ≤ 140737488355328) (hk : o.k = 4) (hi : 0 ≤ o.c ∧ o.c ≤ 9 ∧ 1 ≤ o.s ∧ o.s ≤ 999) (ta : (txt o.acct).size ≤ maxLen) (tp : (txt o.peer).size ≤ maxLen) :
    Calls Tryz.prog 48 #[.agg #[.int .i64 o.c, .int .i64 o.s, .int .i64 o.k, .string (txt o.acct), .string (txt o.peer), .int .i64 o.sum, .slice L.a L.n L.c, .int .i64 o.per, .int .i64 o.hold, .string (txt o.note)]] w fun e w' => e = .returned (.bool (decide (o = bare4 o) && fits4 o)) ∧ Mod none_ w w' := by
  obtain ⟨b, hb⟩ : ∃ b, b = bare4 o := ⟨_, rfl⟩
  rw [← hb, hk]
  have hOb : ∀ W, OdM W b ⟨none, 0, 0⟩ := fun W => by rw [hb]; exact ⟨Rd.none_, Nat.le_refl _⟩
  have kN := Lib.hid (fun W => rname_ok W (txt o.acct) ta)
  have kP := Lib.hid (fun W => rname_ok W (txt o.peer) tp)
  have d0 : decide (o.c < 0) = false := decide_eq_false (by omega)
  have d1 : decide (9 < o.c) = false := decide_eq_false (by omega)
  have d2 : decide (o.s < 1) = false := decide_eq_false (by omega)
  have d3 : decide (999 < o.s) = false := decide_eq_false (by omega)
  replace hO := Lib.hid hO
  replace hb := Lib.hid hb
  replace hOb := Lib.hid hOb
  replace hk := Lib.hid hk
  replace hi := Lib.hid hi
  replace ta := Lib.hid ta
  replace tp := Lib.hid tp
  by_cases hob : o = b
  · rw [decide_eq_true hob, Bool.true_and]
    replace hob := Lib.hid hob
    have hB0 := Lib.hid (Blk.new w 30 #[.int .i64 o.c, .int .i64 o.s, .int .i64 4, .string (txt o.acct), .string (txt o.peer), .int .i64 o.sum, .slice L.a L.n L.c, .int .i64 o.per, .int .i64 o.hold, .string (txt o.note)])
    have hm0 := Lib.hid ((Mod.refl none_ w).alloc (.cells #[.int .i64 o.c, .int .i64 o.s, .int .i64 4, .string (txt o.acct), .string (txt o.peer), .int .i64 o.sum, .slice L.a L.n L.c, .int .i64 o.per, .int .i64 o.hold, .string (txt o.note)] 30))
    go_enter Tryz.func48, Tryz.ntmps48
    go_upto_region 1 with fail
    obtain ⟨W0, hW0⟩ : ∃ W0, W0 = (w.alloc (.cells #[.int .i64 o.c, .int .i64 o.s, .int .i64 4, .string (txt o.acct), .string (txt o.peer), .int .i64 o.sum, .slice L.a L.n L.c, .int .i64 o.per, .int .i64 o.hold, .string (txt o.note)] 30)) := ⟨_, rfl⟩
    rw [← hW0] at hB0 hm0 ⊢
    replace hW0 := Lib.hid hW0
    have hcne : Nonempty (Cls (Mod none_ W0)) := ⟨⟨_, Mod.refl _ _⟩⟩
    have u2 : W0.cell? ⟨w.heap.size, 2, none⟩ = some (.int .i64 4) := hB0.out.cell_ rfl
    have g0 : ∀ s : Cls (Mod none_ W0), s.W.cell? ⟨w.heap.size, 0, none⟩ = some (.int .i64 o.c) := fun s => (hB0.out.mod s.ok (fun h => h)).cell_ rfl
    have g1 : ∀ s : Cls (Mod none_ W0), s.W.cell? ⟨w.heap.size, 1, none⟩ = some (.int .i64 o.s) := fun s => (hB0.out.mod s.ok (fun h => h)).cell_ rfl
    have g2 : ∀ s : Cls (Mod none_ W0), s.W.cell? ⟨w.heap.size, 2, none⟩ = some (.int .i64 4) := fun s => (hB0.out.mod s.ok (fun h => h)).cell_ rfl
    have g3 : ∀ s : Cls (Mod none_ W0), s.W.cell? ⟨w.heap.size, 3, none⟩ = some (.string (txt o.acct)) := fun s => (hB0.out.mod s.ok (fun h => h)).cell_ rfl
    have g4 : ∀ s : Cls (Mod none_ W0), s.W.cell? ⟨w.heap.size, 4, none⟩ = some (.string (txt o.peer)) := fun s => (hB0.out.mod s.ok (fun h => h)).cell_ rfl
    have g5 : ∀ s : Cls (Mod none_ W0), s.W.cell? ⟨w.heap.size, 5, none⟩ = some (.int .i64 o.sum) := fun s => (hB0.out.mod s.ok (fun h => h)).cell_ rfl
    have g6 : ∀ s : Cls (Mod none_ W0), s.W.cell? ⟨w.heap.size, 6, none⟩ = some (.slice L.a L.n L.c) := fun s => (hB0.out.mod s.ok (fun h => h)).cell_ rfl
    have g7 : ∀ s : Cls (Mod none_ W0), s.W.cell? ⟨w.heap.size, 7, none⟩ = some (.int .i64 o.per) := fun s => (hB0.out.mod s.ok (fun h => h)).cell_ rfl
    have g8 : ∀ s : Cls (Mod none_ W0), s.W.cell? ⟨w.heap.size, 8, none⟩ = some (.int .i64 o.hold) := fun s => (hB0.out.mod s.ok (fun h => h)).cell_ rfl
    have g9 : ∀ s : Cls (Mod none_ W0), s.W.cell? ⟨w.heap.size, 9, none⟩ = some (.string (txt o.note)) := fun s => (hB0.out.mod s.ok (fun h => h)).cell_ rfl
    have kb := fun s : Cls (Mod none_ W0) => (rbare_4 s.W o L hk.out b ⟨none, 0, 0⟩ hb.out rfl).mono (fun e w' (h : _ ∧ _) => (⟨h.1, s.ok.trans h.2⟩ : _ ∧ Mod none_ W0 w'))
    have ks := fun s : Cls (Mod none_ W0) => (same6_ok s.W o b L ⟨none, 0, 0⟩ (hO.out.mod0 (hm0.out.trans s.ok)) (hOb.out _) hL (Nat.zero_le _)).mono (fun e w' (h : _ ∧ _) => (⟨h.1, s.ok.trans h.2⟩ : _ ∧ Mod none_ W0 w'))
    rw [hk.out] at kb ks
    replace kb := Lib.hid kb
    rw [decide_eq_true hob.out] at ks
    replace ks := Lib.hid ks
    go_wp2_with fail
    refine wp_region_cls (Mod none_ W0) (by kernel_rfl) (by kernel_rfl) (Mod.refl none_ _).drew ?_
    try simp only [List.append_eq, List.cons_append, List.nil_append]
    repeat (go_big_quiet_step ((first | (go_at_call 75; exact cls_of (kb.out _)) | (go_at_call 57; exact cls_of (ks.out _)))))
    refine wpQuiet_nil ?_
    rintro W1 ⟨⟨_, hW1⟩, rfl⟩
    have hB1 := Lib.hid (hB0.out.mod hW1 (fun h => h))
    replace hW1 := Lib.hid (hm0.out.trans hW1)
    have v2 : W1.cell? ⟨w.heap.size, 2, none⟩ = some (.int .i64 4) := hB1.out.cell_ rfl
    have v3 : W1.cell? ⟨w.heap.size, 3, none⟩ = some (.string (txt o.acct)) := hB1.out.cell_ rfl
    have v4 : W1.cell? ⟨w.heap.size, 4, none⟩ = some (.string (txt o.peer)) := hB1.out.cell_ rfl
    have v5 : W1.cell? ⟨w.heap.size, 5, none⟩ = some (.int .i64 o.sum) := hB1.out.cell_ rfl
    have v6 : W1.cell? ⟨w.heap.size, 6, none⟩ = some (.slice L.a L.n L.c) := hB1.out.cell_ rfl
    have v7 : W1.cell? ⟨w.heap.size, 7, none⟩ = some (.int .i64 o.per) := hB1.out.cell_ rfl
    have v8 : W1.cell? ⟨w.heap.size, 8, none⟩ = some (.int .i64 o.hold) := hB1.out.cell_ rfl
    have v9 : W1.cell? ⟨w.heap.size, 9, none⟩ = some (.string (txt o.note)) := hB1.out.cell_ rfl
    clear g0 g1 g2 g3 g4 g5 g6 g7 g8 g9 kb ks u2
    go_wp2_with fail
    with_reducible refine (kN.out _).mono ?_
    rintro e w2 ⟨rfl, hw2⟩
    dsimp only
    cases hw2
    rw [show (txt o.acct).data.toList = o.acct by simp [txt]]
    cases hn : nameB o.acct
    all_goals
      go_wp2_with fail
      all_goals first
        | (go_ret; refine ⟨?_, hW1.out⟩; unfold fits4; first | (simp_all [periodB, heldB]; done) | (simp_all [periodB, heldB]; omega))
        | (with_reducible refine (kP.out _).mono ?_
           rintro e w3 ⟨rfl, hw3⟩
           dsimp only
           cases hw3
           rw [show (txt o.peer).data.toList = o.peer by simp [txt]]
           cases hp : nameB o.peer
           all_goals
             go_wp2_with fail
             all_goals (go_ret; refine ⟨?_, hW1.out⟩; unfold fits4; first | (simp_all [periodB, heldB]; done) | (simp_all [periodB, heldB]; omega)))
        | (go_wp2_with fail
           all_goals first
             | (go_ret; refine ⟨?_, hW1.out⟩; unfold fits4; first | (simp_all [periodB, heldB]; done) | (simp_all [periodB, heldB]; omega))
             | (with_reducible refine (kP.out _).mono ?_
                rintro e w3 ⟨rfl, hw3⟩
                dsimp only
                cases hw3
                rw [show (txt o.peer).data.toList = o.peer by simp [txt]]
                cases hp : nameB o.peer
                all_goals
                  go_wp2_with fail
                  all_goals (go_ret; refine ⟨?_, hW1.out⟩; unfold fits4; first | (simp_all [periodB, heldB]; done) | (simp_all [periodB, heldB]; omega))))
  · rw [decide_eq_false hob, Bool.false_and]
    replace hob := Lib.hid hob
    have hB0 := Lib.hid (Blk.new w 30 #[.int .i64 o.c, .int .i64 o.s, .int .i64 4, .string (txt o.acct), .string (txt o.peer), .int .i64 o.sum, .slice L.a L.n L.c, .int .i64 o.per, .int .i64 o.hold, .string (txt o.note)])
    have hm0 := Lib.hid ((Mod.refl none_ w).alloc (.cells #[.int .i64 o.c, .int .i64 o.s, .int .i64 4, .string (txt o.acct), .string (txt o.peer), .int .i64 o.sum, .slice L.a L.n L.c, .int .i64 o.per, .int .i64 o.hold, .string (txt o.note)] 30))
    go_enter Tryz.func48, Tryz.ntmps48
    go_upto_region 1 with fail
    obtain ⟨W0, hW0⟩ : ∃ W0, W0 = (w.alloc (.cells #[.int .i64 o.c, .int .i64 o.s, .int .i64 4, .string (txt o.acct), .string (txt o.peer), .int .i64 o.sum, .slice L.a L.n L.c, .int .i64 o.per, .int .i64 o.hold, .string (txt o.note)] 30)) := ⟨_, rfl⟩
    rw [← hW0] at hB0 hm0 ⊢
    replace hW0 := Lib.hid hW0
    have hcne : Nonempty (Cls (Mod none_ W0)) := ⟨⟨_, Mod.refl _ _⟩⟩
    have u2 : W0.cell? ⟨w.heap.size, 2, none⟩ = some (.int .i64 4) := hB0.out.cell_ rfl
    have g0 : ∀ s : Cls (Mod none_ W0), s.W.cell? ⟨w.heap.size, 0, none⟩ = some (.int .i64 o.c) := fun s => (hB0.out.mod s.ok (fun h => h)).cell_ rfl
    have g1 : ∀ s : Cls (Mod none_ W0), s.W.cell? ⟨w.heap.size, 1, none⟩ = some (.int .i64 o.s) := fun s => (hB0.out.mod s.ok (fun h => h)).cell_ rfl
    have g2 : ∀ s : Cls (Mod none_ W0), s.W.cell? ⟨w.heap.size, 2, none⟩ = some (.int .i64 4) := fun s => (hB0.out.mod s.ok (fun h => h)).cell_ rfl
    have g3 : ∀ s : Cls (Mod none_ W0), s.W.cell? ⟨w.heap.size, 3, none⟩ = some (.string (txt o.acct)) := fun s => (hB0.out.mod s.ok (fun h => h)).cell_ rfl
    have g4 : ∀ s : Cls (Mod none_ W0), s.W.cell? ⟨w.heap.size, 4, none⟩ = some (.string (txt o.peer)) := fun s => (hB0.out.mod s.ok (fun h => h)).cell_ rfl
    have g5 : ∀ s : Cls (Mod none_ W0), s.W.cell? ⟨w.heap.size, 5, none⟩ = some (.int .i64 o.sum) := fun s => (hB0.out.mod s.ok (fun h => h)).cell_ rfl
    have g6 : ∀ s : Cls (Mod none_ W0), s.W.cell? ⟨w.heap.size, 6, none⟩ = some (.slice L.a L.n L.c) := fun s => (hB0.out.mod s.ok (fun h => h)).cell_ rfl
    have g7 : ∀ s : Cls (Mod none_ W0), s.W.cell? ⟨w.heap.size, 7, none⟩ = some (.int .i64 o.per) := fun s => (hB0.out.mod s.ok (fun h => h)).cell_ rfl
    have g8 : ∀ s : Cls (Mod none_ W0), s.W.cell? ⟨w.heap.size, 8, none⟩ = some (.int .i64 o.hold) := fun s => (hB0.out.mod s.ok (fun h => h)).cell_ rfl
    have g9 : ∀ s : Cls (Mod none_ W0), s.W.cell? ⟨w.heap.size, 9, none⟩ = some (.string (txt o.note)) := fun s => (hB0.out.mod s.ok (fun h => h)).cell_ rfl
    have kb := fun s : Cls (Mod none_ W0) => (rbare_4 s.W o L hk.out b ⟨none, 0, 0⟩ hb.out rfl).mono (fun e w' (h : _ ∧ _) => (⟨h.1, s.ok.trans h.2⟩ : _ ∧ Mod none_ W0 w'))
    have ks := fun s : Cls (Mod none_ W0) => (same6_ok s.W o b L ⟨none, 0, 0⟩ (hO.out.mod0 (hm0.out.trans s.ok)) (hOb.out _) hL (Nat.zero_le _)).mono (fun e w' (h : _ ∧ _) => (⟨h.1, s.ok.trans h.2⟩ : _ ∧ Mod none_ W0 w'))
    rw [hk.out] at kb ks
    replace kb := Lib.hid kb
    rw [decide_eq_false hob.out] at ks
    replace ks := Lib.hid ks
    go_wp2_with fail
    refine wp_region_cls (Mod none_ W0) (by kernel_rfl) (by kernel_rfl) (Mod.refl none_ _).drew ?_
    try simp only [List.append_eq, List.cons_append, List.nil_append]
    repeat (go_big_quiet_step ((first | (go_at_call 75; exact cls_of (kb.out _)) | (go_at_call 57; exact cls_of (ks.out _)))))
    refine wpQuiet_nil ?_
    rintro W1 ⟨⟨_, hW1⟩, rfl⟩
    have hB1 := Lib.hid (hB0.out.mod hW1 (fun h => h))
    replace hW1 := Lib.hid (hm0.out.trans hW1)
    go_wp2_with fail
    go_ret
    exact ⟨rfl, hW1.out⟩
set_option maxRecDepth 100000 in
set_option maxHeartbeats 8000000 in
theorem r06_5 (w : World) (o : Od) (L : SV) (hO : OdM w o L) (hL : L.n ≤ 140737488355328) (hk : o.k = 5) (hi : 0 ≤ o.c ∧ o.c ≤ 9 ∧ 1 ≤ o.s ∧ o.s ≤ 999) (ta : (txt o.acct).size ≤ maxLen) (tp : (txt o.peer).size ≤ maxLen) :
    Calls Tryz.prog 48 #[.agg #[.int .i64 o.c, .int .i64 o.s, .int .i64 o.k, .string (txt o.acct), .string (txt o.peer), .int .i64 o.sum, .slice L.a L.n L.c, .int .i64 o.per, .int .i64 o.hold, .string (txt o.note)]] w fun e w' => e = .returned (.bool (decide (o = bare5 o) && fits5 o)) ∧ Mod none_ w w' := by
  obtain ⟨b, hb⟩ : ∃ b, b = bare5 o := ⟨_, rfl⟩
  rw [← hb, hk]
  have hOb : ∀ W, OdM W b ⟨none, 0, 0⟩ := fun W => by rw [hb]; exact ⟨Rd.none_, Nat.le_refl _⟩
  have kN := Lib.hid (fun W => rname_ok W (txt o.acct) ta)
  have kP := Lib.hid (fun W => rname_ok W (txt o.peer) tp)
  have d0 : decide (o.c < 0) = false := decide_eq_false (by omega)
  have d1 : decide (9 < o.c) = false := decide_eq_false (by omega)
  have d2 : decide (o.s < 1) = false := decide_eq_false (by omega)
  have d3 : decide (999 < o.s) = false := decide_eq_false (by omega)
  replace hO := Lib.hid hO
  replace hb := Lib.hid hb
  replace hOb := Lib.hid hOb
  replace hk := Lib.hid hk
  replace hi := Lib.hid hi
  replace ta := Lib.hid ta
  replace tp := Lib.hid tp
  by_cases hob : o = b
  · rw [decide_eq_true hob, Bool.true_and]
    replace hob := Lib.hid hob
    have hB0 := Lib.hid (Blk.new w 30 #[.int .i64 o.c, .int .i64 o.s, .int .i64 5, .string (txt o.acct), .string (txt o.peer), .int .i64 o.sum, .slice L.a L.n L.c, .int .i64 o.per, .int .i64 o.hold, .string (txt o.note)])
    have hm0 := Lib.hid ((Mod.refl none_ w).alloc (.cells #[.int .i64 o.c, .int .i64 o.s, .int .i64 5, .string (txt o.acct), .string (txt o.peer), .int .i64 o.sum, .slice L.a L.n L.c, .int .i64 o.per, .int .i64 o.hold, .string (txt o.note)] 30))
    go_enter Tryz.func48, Tryz.ntmps48
    go_upto_region 1 with fail
    obtain ⟨W0, hW0⟩ : ∃ W0, W0 = (w.alloc (.cells #[.int .i64 o.c, .int .i64 o.s, .int .i64 5, .string (txt o.acct), .string (txt o.peer), .int .i64 o.sum, .slice L.a L.n L.c, .int .i64 o.per, .int .i64 o.hold, .string (txt o.note)] 30)) := ⟨_, rfl⟩
    rw [← hW0] at hB0 hm0 ⊢
    replace hW0 := Lib.hid hW0
    have hcne : Nonempty (Cls (Mod none_ W0)) := ⟨⟨_, Mod.refl _ _⟩⟩
    have u2 : W0.cell? ⟨w.heap.size, 2, none⟩ = some (.int .i64 5) := hB0.out.cell_ rfl
    have g0 : ∀ s : Cls (Mod none_ W0), s.W.cell? ⟨w.heap.size, 0, none⟩ = some (.int .i64 o.c) := fun s => (hB0.out.mod s.ok (fun h => h)).cell_ rfl
    have g1 : ∀ s : Cls (Mod none_ W0), s.W.cell? ⟨w.heap.size, 1, none⟩ = some (.int .i64 o.s) := fun s => (hB0.out.mod s.ok (fun h => h)).cell_ rfl
    have g2 : ∀ s : Cls (Mod none_ W0), s.W.cell? ⟨w.heap.size, 2, none⟩ = some (.int .i64 5) := fun s => (hB0.out.mod s.ok (fun h => h)).cell_ rfl
    have g3 : ∀ s : Cls (Mod none_ W0), s.W.cell? ⟨w.heap.size, 3, none⟩ = some (.string (txt o.acct)) := fun s => (hB0.out.mod s.ok (fun h => h)).cell_ rfl
    have g4 : ∀ s : Cls (Mod none_ W0), s.W.cell? ⟨w.heap.size, 4, none⟩ = some (.string (txt o.peer)) := fun s => (hB0.out.mod s.ok (fun h => h)).cell_ rfl
    have g5 : ∀ s : Cls (Mod none_ W0), s.W.cell? ⟨w.heap.size, 5, none⟩ = some (.int .i64 o.sum) := fun s => (hB0.out.mod s.ok (fun h => h)).cell_ rfl
    have g6 : ∀ s : Cls (Mod none_ W0), s.W.cell? ⟨w.heap.size, 6, none⟩ = some (.slice L.a L.n L.c) := fun s => (hB0.out.mod s.ok (fun h => h)).cell_ rfl
    have g7 : ∀ s : Cls (Mod none_ W0), s.W.cell? ⟨w.heap.size, 7, none⟩ = some (.int .i64 o.per) := fun s => (hB0.out.mod s.ok (fun h => h)).cell_ rfl
    have g8 : ∀ s : Cls (Mod none_ W0), s.W.cell? ⟨w.heap.size, 8, none⟩ = some (.int .i64 o.hold) := fun s => (hB0.out.mod s.ok (fun h => h)).cell_ rfl
    have g9 : ∀ s : Cls (Mod none_ W0), s.W.cell? ⟨w.heap.size, 9, none⟩ = some (.string (txt o.note)) := fun s => (hB0.out.mod s.ok (fun h => h)).cell_ rfl
    have kb := fun s : Cls (Mod none_ W0) => (rbare_5 s.W o L hk.out b ⟨none, 0, 0⟩ hb.out rfl).mono (fun e w' (h : _ ∧ _) => (⟨h.1, s.ok.trans h.2⟩ : _ ∧ Mod none_ W0 w'))
    have ks := fun s : Cls (Mod none_ W0) => (same6_ok s.W o b L ⟨none, 0, 0⟩ (hO.out.mod0 (hm0.out.trans s.ok)) (hOb.out _) hL (Nat.zero_le _)).mono (fun e w' (h : _ ∧ _) => (⟨h.1, s.ok.trans h.2⟩ : _ ∧ Mod none_ W0 w'))
    rw [hk.out] at kb ks
    replace kb := Lib.hid kb
    rw [decide_eq_true hob.out] at ks
    replace ks := Lib.hid ks
    go_wp2_with fail
    refine wp_region_cls (Mod none_ W0) (by kernel_rfl) (by kernel_rfl) (Mod.refl none_ _).drew ?_
    try simp only [List.append_eq, List.cons_append, List.nil_append]
    repeat (go_big_quiet_step ((first | (go_at_call 75; exact cls_of (kb.out _)) | (go_at_call 57; exact cls_of (ks.out _)))))
    refine wpQuiet_nil ?_
    rintro W1 ⟨⟨_, hW1⟩, rfl⟩
    have hB1 := Lib.hid (hB0.out.mod hW1 (fun h => h))
    replace hW1 := Lib.hid (hm0.out.trans hW1)
    have v2 : W1.cell? ⟨w.heap.size, 2, none⟩ = some (.int .i64 5) := hB1.out.cell_ rfl
    have v3 : W1.cell? ⟨w.heap.size, 3, none⟩ = some (.string (txt o.acct)) := hB1.out.cell_ rfl
    have v4 : W1.cell? ⟨w.heap.size, 4, none⟩ = some (.string (txt o.peer)) := hB1.out.cell_ rfl
    have v5 : W1.cell? ⟨w.heap.size, 5, none⟩ = some (.int .i64 o.sum) := hB1.out.cell_ rfl
    have v6 : W1.cell? ⟨w.heap.size, 6, none⟩ = some (.slice L.a L.n L.c) := hB1.out.cell_ rfl
    have v7 : W1.cell? ⟨w.heap.size, 7, none⟩ = some (.int .i64 o.per) := hB1.out.cell_ rfl
    have v8 : W1.cell? ⟨w.heap.size, 8, none⟩ = some (.int .i64 o.hold) := hB1.out.cell_ rfl
    have v9 : W1.cell? ⟨w.heap.size, 9, none⟩ = some (.string (txt o.note)) := hB1.out.cell_ rfl
    clear g0 g1 g2 g3 g4 g5 g6 g7 g8 g9 kb ks u2
    go_wp2_with fail
    with_reducible refine (kN.out _).mono ?_
    rintro e w2 ⟨rfl, hw2⟩
    dsimp only
    cases hw2
    rw [show (txt o.acct).data.toList = o.acct by simp [txt]]
    cases hn : nameB o.acct
    all_goals
      go_wp2_with fail
      all_goals (go_ret; refine ⟨?_, hW1.out⟩; unfold fits5; first | (simp_all [periodB, heldB]; done) | (simp_all [periodB, heldB]; omega))
  · rw [decide_eq_false hob, Bool.false_and]
    replace hob := Lib.hid hob
    have hB0 := Lib.hid (Blk.new w 30 #[.int .i64 o.c, .int .i64 o.s, .int .i64 5, .string (txt o.acct), .string (txt o.peer), .int .i64 o.sum, .slice L.a L.n L.c, .int .i64 o.per, .int .i64 o.hold, .string (txt o.note)])
    have hm0 := Lib.hid ((Mod.refl none_ w).alloc (.cells #[.int .i64 o.c, .int .i64 o.s, .int .i64 5, .string (txt o.acct), .string (txt o.peer), .int .i64 o.sum, .slice L.a L.n L.c, .int .i64 o.per, .int .i64 o.hold, .string (txt o.note)] 30))
    go_enter Tryz.func48, Tryz.ntmps48
    go_upto_region 1 with fail
    obtain ⟨W0, hW0⟩ : ∃ W0, W0 = (w.alloc (.cells #[.int .i64 o.c, .int .i64 o.s, .int .i64 5, .string (txt o.acct), .string (txt o.peer), .int .i64 o.sum, .slice L.a L.n L.c, .int .i64 o.per, .int .i64 o.hold, .string (txt o.note)] 30)) := ⟨_, rfl⟩
    rw [← hW0] at hB0 hm0 ⊢
    replace hW0 := Lib.hid hW0
    have hcne : Nonempty (Cls (Mod none_ W0)) := ⟨⟨_, Mod.refl _ _⟩⟩
    have u2 : W0.cell? ⟨w.heap.size, 2, none⟩ = some (.int .i64 5) := hB0.out.cell_ rfl
    have g0 : ∀ s : Cls (Mod none_ W0), s.W.cell? ⟨w.heap.size, 0, none⟩ = some (.int .i64 o.c) := fun s => (hB0.out.mod s.ok (fun h => h)).cell_ rfl
    have g1 : ∀ s : Cls (Mod none_ W0), s.W.cell? ⟨w.heap.size, 1, none⟩ = some (.int .i64 o.s) := fun s => (hB0.out.mod s.ok (fun h => h)).cell_ rfl
    have g2 : ∀ s : Cls (Mod none_ W0), s.W.cell? ⟨w.heap.size, 2, none⟩ = some (.int .i64 5) := fun s => (hB0.out.mod s.ok (fun h => h)).cell_ rfl
    have g3 : ∀ s : Cls (Mod none_ W0), s.W.cell? ⟨w.heap.size, 3, none⟩ = some (.string (txt o.acct)) := fun s => (hB0.out.mod s.ok (fun h => h)).cell_ rfl
    have g4 : ∀ s : Cls (Mod none_ W0), s.W.cell? ⟨w.heap.size, 4, none⟩ = some (.string (txt o.peer)) := fun s => (hB0.out.mod s.ok (fun h => h)).cell_ rfl
    have g5 : ∀ s : Cls (Mod none_ W0), s.W.cell? ⟨w.heap.size, 5, none⟩ = some (.int .i64 o.sum) := fun s => (hB0.out.mod s.ok (fun h => h)).cell_ rfl
    have g6 : ∀ s : Cls (Mod none_ W0), s.W.cell? ⟨w.heap.size, 6, none⟩ = some (.slice L.a L.n L.c) := fun s => (hB0.out.mod s.ok (fun h => h)).cell_ rfl
    have g7 : ∀ s : Cls (Mod none_ W0), s.W.cell? ⟨w.heap.size, 7, none⟩ = some (.int .i64 o.per) := fun s => (hB0.out.mod s.ok (fun h => h)).cell_ rfl
    have g8 : ∀ s : Cls (Mod none_ W0), s.W.cell? ⟨w.heap.size, 8, none⟩ = some (.int .i64 o.hold) := fun s => (hB0.out.mod s.ok (fun h => h)).cell_ rfl
    have g9 : ∀ s : Cls (Mod none_ W0), s.W.cell? ⟨w.heap.size, 9, none⟩ = some (.string (txt o.note)) := fun s => (hB0.out.mod s.ok (fun h => h)).cell_ rfl
    have kb := fun s : Cls (Mod none_ W0) => (rbare_5 s.W o L hk.out b ⟨none, 0, 0⟩ hb.out rfl).mono (fun e w' (h : _ ∧ _) => (⟨h.1, s.ok.trans h.2⟩ : _ ∧ Mod none_ W0 w'))
    have ks := fun s : Cls (Mod none_ W0) => (same6_ok s.W o b L ⟨none, 0, 0⟩ (hO.out.mod0 (hm0.out.trans s.ok)) (hOb.out _) hL (Nat.zero_le _)).mono (fun e w' (h : _ ∧ _) => (⟨h.1, s.ok.trans h.2⟩ : _ ∧ Mod none_ W0 w'))
    rw [hk.out] at kb ks
    replace kb := Lib.hid kb
    rw [decide_eq_false hob.out] at ks
    replace ks := Lib.hid ks
    go_wp2_with fail
    refine wp_region_cls (Mod none_ W0) (by kernel_rfl) (by kernel_rfl) (Mod.refl none_ _).drew ?_
    try simp only [List.append_eq, List.cons_append, List.nil_append]
    repeat (go_big_quiet_step ((first | (go_at_call 75; exact cls_of (kb.out _)) | (go_at_call 57; exact cls_of (ks.out _)))))
    refine wpQuiet_nil ?_
    rintro W1 ⟨⟨_, hW1⟩, rfl⟩
    have hB1 := Lib.hid (hB0.out.mod hW1 (fun h => h))
    replace hW1 := Lib.hid (hm0.out.trans hW1)
    go_wp2_with fail
    go_ret
    exact ⟨rfl, hW1.out⟩
set_option maxRecDepth 100000 in
set_option maxHeartbeats 8000000 in
theorem r06_6 (w : World) (o : Od) (L : SV) (hO : OdM w o L) (hL : L.n ≤ 140737488355328) (hk : o.k = 6) (hi : 0 ≤ o.c ∧ o.c ≤ 9 ∧ 1 ≤ o.s ∧ o.s ≤ 999) (ta : (txt o.acct).size ≤ maxLen) (tp : (txt o.peer).size ≤ maxLen) :
    Calls Tryz.prog 48 #[.agg #[.int .i64 o.c, .int .i64 o.s, .int .i64 o.k, .string (txt o.acct), .string (txt o.peer), .int .i64 o.sum, .slice L.a L.n L.c, .int .i64 o.per, .int .i64 o.hold, .string (txt o.note)]] w fun e w' => e = .returned (.bool (decide (o = bare6 o) && fits6 o)) ∧ Mod none_ w w' := by
  obtain ⟨b, hb⟩ : ∃ b, b = bare6 o := ⟨_, rfl⟩
  rw [← hb, hk]
  have hOb : ∀ W, OdM W b ⟨none, 0, 0⟩ := fun W => by rw [hb]; exact ⟨Rd.none_, Nat.le_refl _⟩
  have kN := Lib.hid (fun W => rname_ok W (txt o.acct) ta)
  have kP := Lib.hid (fun W => rname_ok W (txt o.peer) tp)
  have d0 : decide (o.c < 0) = false := decide_eq_false (by omega)
  have d1 : decide (9 < o.c) = false := decide_eq_false (by omega)
  have d2 : decide (o.s < 1) = false := decide_eq_false (by omega)
  have d3 : decide (999 < o.s) = false := decide_eq_false (by omega)
  replace hO := Lib.hid hO
  replace hb := Lib.hid hb
  replace hOb := Lib.hid hOb
  replace hk := Lib.hid hk
  replace hi := Lib.hid hi
  replace ta := Lib.hid ta
  replace tp := Lib.hid tp
  by_cases hob : o = b
  · rw [decide_eq_true hob, Bool.true_and]
    replace hob := Lib.hid hob
    have hB0 := Lib.hid (Blk.new w 30 #[.int .i64 o.c, .int .i64 o.s, .int .i64 6, .string (txt o.acct), .string (txt o.peer), .int .i64 o.sum, .slice L.a L.n L.c, .int .i64 o.per, .int .i64 o.hold, .string (txt o.note)])
    have hm0 := Lib.hid ((Mod.refl none_ w).alloc (.cells #[.int .i64 o.c, .int .i64 o.s, .int .i64 6, .string (txt o.acct), .string (txt o.peer), .int .i64 o.sum, .slice L.a L.n L.c, .int .i64 o.per, .int .i64 o.hold, .string (txt o.note)] 30))
    go_enter Tryz.func48, Tryz.ntmps48
    go_upto_region 1 with fail
    obtain ⟨W0, hW0⟩ : ∃ W0, W0 = (w.alloc (.cells #[.int .i64 o.c, .int .i64 o.s, .int .i64 6, .string (txt o.acct), .string (txt o.peer), .int .i64 o.sum, .slice L.a L.n L.c, .int .i64 o.per, .int .i64 o.hold, .string (txt o.note)] 30)) := ⟨_, rfl⟩
    rw [← hW0] at hB0 hm0 ⊢
    replace hW0 := Lib.hid hW0
    have hcne : Nonempty (Cls (Mod none_ W0)) := ⟨⟨_, Mod.refl _ _⟩⟩
    have u2 : W0.cell? ⟨w.heap.size, 2, none⟩ = some (.int .i64 6) := hB0.out.cell_ rfl
    have g0 : ∀ s : Cls (Mod none_ W0), s.W.cell? ⟨w.heap.size, 0, none⟩ = some (.int .i64 o.c) := fun s => (hB0.out.mod s.ok (fun h => h)).cell_ rfl
    have g1 : ∀ s : Cls (Mod none_ W0), s.W.cell? ⟨w.heap.size, 1, none⟩ = some (.int .i64 o.s) := fun s => (hB0.out.mod s.ok (fun h => h)).cell_ rfl
    have g2 : ∀ s : Cls (Mod none_ W0), s.W.cell? ⟨w.heap.size, 2, none⟩ = some (.int .i64 6) := fun s => (hB0.out.mod s.ok (fun h => h)).cell_ rfl
    have g3 : ∀ s : Cls (Mod none_ W0), s.W.cell? ⟨w.heap.size, 3, none⟩ = some (.string (txt o.acct)) := fun s => (hB0.out.mod s.ok (fun h => h)).cell_ rfl
    have g4 : ∀ s : Cls (Mod none_ W0), s.W.cell? ⟨w.heap.size, 4, none⟩ = some (.string (txt o.peer)) := fun s => (hB0.out.mod s.ok (fun h => h)).cell_ rfl
    have g5 : ∀ s : Cls (Mod none_ W0), s.W.cell? ⟨w.heap.size, 5, none⟩ = some (.int .i64 o.sum) := fun s => (hB0.out.mod s.ok (fun h => h)).cell_ rfl
    have g6 : ∀ s : Cls (Mod none_ W0), s.W.cell? ⟨w.heap.size, 6, none⟩ = some (.slice L.a L.n L.c) := fun s => (hB0.out.mod s.ok (fun h => h)).cell_ rfl
    have g7 : ∀ s : Cls (Mod none_ W0), s.W.cell? ⟨w.heap.size, 7, none⟩ = some (.int .i64 o.per) := fun s => (hB0.out.mod s.ok (fun h => h)).cell_ rfl
    have g8 : ∀ s : Cls (Mod none_ W0), s.W.cell? ⟨w.heap.size, 8, none⟩ = some (.int .i64 o.hold) := fun s => (hB0.out.mod s.ok (fun h => h)).cell_ rfl
    have g9 : ∀ s : Cls (Mod none_ W0), s.W.cell? ⟨w.heap.size, 9, none⟩ = some (.string (txt o.note)) := fun s => (hB0.out.mod s.ok (fun h => h)).cell_ rfl
    have kb := fun s : Cls (Mod none_ W0) => (rbare_6 s.W o L hk.out b ⟨none, 0, 0⟩ hb.out rfl).mono (fun e w' (h : _ ∧ _) => (⟨h.1, s.ok.trans h.2⟩ : _ ∧ Mod none_ W0 w'))
    have ks := fun s : Cls (Mod none_ W0) => (same6_ok s.W o b L ⟨none, 0, 0⟩ (hO.out.mod0 (hm0.out.trans s.ok)) (hOb.out _) hL (Nat.zero_le _)).mono (fun e w' (h : _ ∧ _) => (⟨h.1, s.ok.trans h.2⟩ : _ ∧ Mod none_ W0 w'))
    rw [hk.out] at kb ks
    replace kb := Lib.hid kb
    rw [decide_eq_true hob.out] at ks
    replace ks := Lib.hid ks
    go_wp2_with fail
    refine wp_region_cls (Mod none_ W0) (by kernel_rfl) (by kernel_rfl) (Mod.refl none_ _).drew ?_
    try simp only [List.append_eq, List.cons_append, List.nil_append]
    repeat (go_big_quiet_step ((first | (go_at_call 75; exact cls_of (kb.out _)) | (go_at_call 57; exact cls_of (ks.out _)))))
    refine wpQuiet_nil ?_
    rintro W1 ⟨⟨_, hW1⟩, rfl⟩
    have hB1 := Lib.hid (hB0.out.mod hW1 (fun h => h))
    replace hW1 := Lib.hid (hm0.out.trans hW1)
    have v2 : W1.cell? ⟨w.heap.size, 2, none⟩ = some (.int .i64 6) := hB1.out.cell_ rfl
    have v3 : W1.cell? ⟨w.heap.size, 3, none⟩ = some (.string (txt o.acct)) := hB1.out.cell_ rfl
    have v4 : W1.cell? ⟨w.heap.size, 4, none⟩ = some (.string (txt o.peer)) := hB1.out.cell_ rfl
    have v5 : W1.cell? ⟨w.heap.size, 5, none⟩ = some (.int .i64 o.sum) := hB1.out.cell_ rfl
    have v6 : W1.cell? ⟨w.heap.size, 6, none⟩ = some (.slice L.a L.n L.c) := hB1.out.cell_ rfl
    have v7 : W1.cell? ⟨w.heap.size, 7, none⟩ = some (.int .i64 o.per) := hB1.out.cell_ rfl
    have v8 : W1.cell? ⟨w.heap.size, 8, none⟩ = some (.int .i64 o.hold) := hB1.out.cell_ rfl
    have v9 : W1.cell? ⟨w.heap.size, 9, none⟩ = some (.string (txt o.note)) := hB1.out.cell_ rfl
    clear g0 g1 g2 g3 g4 g5 g6 g7 g8 g9 kb ks u2
    go_wp2_with fail
    all_goals (go_ret; refine ⟨?_, hW1.out⟩; unfold fits6; first | (simp_all [periodB, heldB]; done) | (simp_all [periodB, heldB]; omega))
  · rw [decide_eq_false hob, Bool.false_and]
    replace hob := Lib.hid hob
    have hB0 := Lib.hid (Blk.new w 30 #[.int .i64 o.c, .int .i64 o.s, .int .i64 6, .string (txt o.acct), .string (txt o.peer), .int .i64 o.sum, .slice L.a L.n L.c, .int .i64 o.per, .int .i64 o.hold, .string (txt o.note)])
    have hm0 := Lib.hid ((Mod.refl none_ w).alloc (.cells #[.int .i64 o.c, .int .i64 o.s, .int .i64 6, .string (txt o.acct), .string (txt o.peer), .int .i64 o.sum, .slice L.a L.n L.c, .int .i64 o.per, .int .i64 o.hold, .string (txt o.note)] 30))
    go_enter Tryz.func48, Tryz.ntmps48
    go_upto_region 1 with fail
    obtain ⟨W0, hW0⟩ : ∃ W0, W0 = (w.alloc (.cells #[.int .i64 o.c, .int .i64 o.s, .int .i64 6, .string (txt o.acct), .string (txt o.peer), .int .i64 o.sum, .slice L.a L.n L.c, .int .i64 o.per, .int .i64 o.hold, .string (txt o.note)] 30)) := ⟨_, rfl⟩
    rw [← hW0] at hB0 hm0 ⊢
    replace hW0 := Lib.hid hW0
    have hcne : Nonempty (Cls (Mod none_ W0)) := ⟨⟨_, Mod.refl _ _⟩⟩
    have u2 : W0.cell? ⟨w.heap.size, 2, none⟩ = some (.int .i64 6) := hB0.out.cell_ rfl
    have g0 : ∀ s : Cls (Mod none_ W0), s.W.cell? ⟨w.heap.size, 0, none⟩ = some (.int .i64 o.c) := fun s => (hB0.out.mod s.ok (fun h => h)).cell_ rfl
    have g1 : ∀ s : Cls (Mod none_ W0), s.W.cell? ⟨w.heap.size, 1, none⟩ = some (.int .i64 o.s) := fun s => (hB0.out.mod s.ok (fun h => h)).cell_ rfl
    have g2 : ∀ s : Cls (Mod none_ W0), s.W.cell? ⟨w.heap.size, 2, none⟩ = some (.int .i64 6) := fun s => (hB0.out.mod s.ok (fun h => h)).cell_ rfl
    have g3 : ∀ s : Cls (Mod none_ W0), s.W.cell? ⟨w.heap.size, 3, none⟩ = some (.string (txt o.acct)) := fun s => (hB0.out.mod s.ok (fun h => h)).cell_ rfl
    have g4 : ∀ s : Cls (Mod none_ W0), s.W.cell? ⟨w.heap.size, 4, none⟩ = some (.string (txt o.peer)) := fun s => (hB0.out.mod s.ok (fun h => h)).cell_ rfl
    have g5 : ∀ s : Cls (Mod none_ W0), s.W.cell? ⟨w.heap.size, 5, none⟩ = some (.int .i64 o.sum) := fun s => (hB0.out.mod s.ok (fun h => h)).cell_ rfl
    have g6 : ∀ s : Cls (Mod none_ W0), s.W.cell? ⟨w.heap.size, 6, none⟩ = some (.slice L.a L.n L.c) := fun s => (hB0.out.mod s.ok (fun h => h)).cell_ rfl
    have g7 : ∀ s : Cls (Mod none_ W0), s.W.cell? ⟨w.heap.size, 7, none⟩ = some (.int .i64 o.per) := fun s => (hB0.out.mod s.ok (fun h => h)).cell_ rfl
    have g8 : ∀ s : Cls (Mod none_ W0), s.W.cell? ⟨w.heap.size, 8, none⟩ = some (.int .i64 o.hold) := fun s => (hB0.out.mod s.ok (fun h => h)).cell_ rfl
    have g9 : ∀ s : Cls (Mod none_ W0), s.W.cell? ⟨w.heap.size, 9, none⟩ = some (.string (txt o.note)) := fun s => (hB0.out.mod s.ok (fun h => h)).cell_ rfl
    have kb := fun s : Cls (Mod none_ W0) => (rbare_6 s.W o L hk.out b ⟨none, 0, 0⟩ hb.out rfl).mono (fun e w' (h : _ ∧ _) => (⟨h.1, s.ok.trans h.2⟩ : _ ∧ Mod none_ W0 w'))
    have ks := fun s : Cls (Mod none_ W0) => (same6_ok s.W o b L ⟨none, 0, 0⟩ (hO.out.mod0 (hm0.out.trans s.ok)) (hOb.out _) hL (Nat.zero_le _)).mono (fun e w' (h : _ ∧ _) => (⟨h.1, s.ok.trans h.2⟩ : _ ∧ Mod none_ W0 w'))
    rw [hk.out] at kb ks
    replace kb := Lib.hid kb
    rw [decide_eq_false hob.out] at ks
    replace ks := Lib.hid ks
    go_wp2_with fail
    refine wp_region_cls (Mod none_ W0) (by kernel_rfl) (by kernel_rfl) (Mod.refl none_ _).drew ?_
    try simp only [List.append_eq, List.cons_append, List.nil_append]
    repeat (go_big_quiet_step ((first | (go_at_call 75; exact cls_of (kb.out _)) | (go_at_call 57; exact cls_of (ks.out _)))))
    refine wpQuiet_nil ?_
    rintro W1 ⟨⟨_, hW1⟩, rfl⟩
    have hB1 := Lib.hid (hB0.out.mod hW1 (fun h => h))
    replace hW1 := Lib.hid (hm0.out.trans hW1)
    go_wp2_with fail
    go_ret
    exact ⟨rfl, hW1.out⟩
set_option maxRecDepth 100000 in
set_option maxHeartbeats 8000000 in
theorem r06_7 (w : World) (o : Od) (L : SV) (hO : OdM w o L) (hL : L.n ≤ 140737488355328) (hk : o.k = 7) (hi : 0 ≤ o.c ∧ o.c ≤ 9 ∧ 1 ≤ o.s ∧ o.s ≤ 999) (ta : (txt o.acct).size ≤ maxLen) (tp : (txt o.peer).size ≤ maxLen) :
    Calls Tryz.prog 48 #[.agg #[.int .i64 o.c, .int .i64 o.s, .int .i64 o.k, .string (txt o.acct), .string (txt o.peer), .int .i64 o.sum, .slice L.a L.n L.c, .int .i64 o.per, .int .i64 o.hold, .string (txt o.note)]] w fun e w' => e = .returned (.bool (decide (o = bare7 o) && fits7 o)) ∧ Mod none_ w w' := by
  obtain ⟨b, hb⟩ : ∃ b, b = bare7 o := ⟨_, rfl⟩
  rw [← hb, hk]
  have hOb : ∀ W, OdM W b ⟨none, 0, 0⟩ := fun W => by rw [hb]; exact ⟨Rd.none_, Nat.le_refl _⟩
  have kN := Lib.hid (fun W => rname_ok W (txt o.acct) ta)
  have kP := Lib.hid (fun W => rname_ok W (txt o.peer) tp)
  have d0 : decide (o.c < 0) = false := decide_eq_false (by omega)
  have d1 : decide (9 < o.c) = false := decide_eq_false (by omega)
  have d2 : decide (o.s < 1) = false := decide_eq_false (by omega)
  have d3 : decide (999 < o.s) = false := decide_eq_false (by omega)
  replace hO := Lib.hid hO
  replace hb := Lib.hid hb
  replace hOb := Lib.hid hOb
  replace hk := Lib.hid hk
  replace hi := Lib.hid hi
  replace ta := Lib.hid ta
  replace tp := Lib.hid tp
  by_cases hob : o = b
  · rw [decide_eq_true hob, Bool.true_and]
    replace hob := Lib.hid hob
    have hB0 := Lib.hid (Blk.new w 30 #[.int .i64 o.c, .int .i64 o.s, .int .i64 7, .string (txt o.acct), .string (txt o.peer), .int .i64 o.sum, .slice L.a L.n L.c, .int .i64 o.per, .int .i64 o.hold, .string (txt o.note)])
    have hm0 := Lib.hid ((Mod.refl none_ w).alloc (.cells #[.int .i64 o.c, .int .i64 o.s, .int .i64 7, .string (txt o.acct), .string (txt o.peer), .int .i64 o.sum, .slice L.a L.n L.c, .int .i64 o.per, .int .i64 o.hold, .string (txt o.note)] 30))
    go_enter Tryz.func48, Tryz.ntmps48
    go_upto_region 1 with fail
    obtain ⟨W0, hW0⟩ : ∃ W0, W0 = (w.alloc (.cells #[.int .i64 o.c, .int .i64 o.s, .int .i64 7, .string (txt o.acct), .string (txt o.peer), .int .i64 o.sum, .slice L.a L.n L.c, .int .i64 o.per, .int .i64 o.hold, .string (txt o.note)] 30)) := ⟨_, rfl⟩
    rw [← hW0] at hB0 hm0 ⊢
    replace hW0 := Lib.hid hW0
    have hcne : Nonempty (Cls (Mod none_ W0)) := ⟨⟨_, Mod.refl _ _⟩⟩
    have u2 : W0.cell? ⟨w.heap.size, 2, none⟩ = some (.int .i64 7) := hB0.out.cell_ rfl
    have g0 : ∀ s : Cls (Mod none_ W0), s.W.cell? ⟨w.heap.size, 0, none⟩ = some (.int .i64 o.c) := fun s => (hB0.out.mod s.ok (fun h => h)).cell_ rfl
    have g1 : ∀ s : Cls (Mod none_ W0), s.W.cell? ⟨w.heap.size, 1, none⟩ = some (.int .i64 o.s) := fun s => (hB0.out.mod s.ok (fun h => h)).cell_ rfl
    have g2 : ∀ s : Cls (Mod none_ W0), s.W.cell? ⟨w.heap.size, 2, none⟩ = some (.int .i64 7) := fun s => (hB0.out.mod s.ok (fun h => h)).cell_ rfl
    have g3 : ∀ s : Cls (Mod none_ W0), s.W.cell? ⟨w.heap.size, 3, none⟩ = some (.string (txt o.acct)) := fun s => (hB0.out.mod s.ok (fun h => h)).cell_ rfl
    have g4 : ∀ s : Cls (Mod none_ W0), s.W.cell? ⟨w.heap.size, 4, none⟩ = some (.string (txt o.peer)) := fun s => (hB0.out.mod s.ok (fun h => h)).cell_ rfl
    have g5 : ∀ s : Cls (Mod none_ W0), s.W.cell? ⟨w.heap.size, 5, none⟩ = some (.int .i64 o.sum) := fun s => (hB0.out.mod s.ok (fun h => h)).cell_ rfl
    have g6 : ∀ s : Cls (Mod none_ W0), s.W.cell? ⟨w.heap.size, 6, none⟩ = some (.slice L.a L.n L.c) := fun s => (hB0.out.mod s.ok (fun h => h)).cell_ rfl
    have g7 : ∀ s : Cls (Mod none_ W0), s.W.cell? ⟨w.heap.size, 7, none⟩ = some (.int .i64 o.per) := fun s => (hB0.out.mod s.ok (fun h => h)).cell_ rfl
    have g8 : ∀ s : Cls (Mod none_ W0), s.W.cell? ⟨w.heap.size, 8, none⟩ = some (.int .i64 o.hold) := fun s => (hB0.out.mod s.ok (fun h => h)).cell_ rfl
    have g9 : ∀ s : Cls (Mod none_ W0), s.W.cell? ⟨w.heap.size, 9, none⟩ = some (.string (txt o.note)) := fun s => (hB0.out.mod s.ok (fun h => h)).cell_ rfl
    have kb := fun s : Cls (Mod none_ W0) => (rbare_7 s.W o L hk.out b ⟨none, 0, 0⟩ hb.out rfl).mono (fun e w' (h : _ ∧ _) => (⟨h.1, s.ok.trans h.2⟩ : _ ∧ Mod none_ W0 w'))
    have ks := fun s : Cls (Mod none_ W0) => (same6_ok s.W o b L ⟨none, 0, 0⟩ (hO.out.mod0 (hm0.out.trans s.ok)) (hOb.out _) hL (Nat.zero_le _)).mono (fun e w' (h : _ ∧ _) => (⟨h.1, s.ok.trans h.2⟩ : _ ∧ Mod none_ W0 w'))
    rw [hk.out] at kb ks
    replace kb := Lib.hid kb
    rw [decide_eq_true hob.out] at ks
    replace ks := Lib.hid ks
    go_wp2_with fail
    refine wp_region_cls (Mod none_ W0) (by kernel_rfl) (by kernel_rfl) (Mod.refl none_ _).drew ?_
    try simp only [List.append_eq, List.cons_append, List.nil_append]
    repeat (go_big_quiet_step ((first | (go_at_call 75; exact cls_of (kb.out _)) | (go_at_call 57; exact cls_of (ks.out _)))))
    refine wpQuiet_nil ?_
    rintro W1 ⟨⟨_, hW1⟩, rfl⟩
    have hB1 := Lib.hid (hB0.out.mod hW1 (fun h => h))
    replace hW1 := Lib.hid (hm0.out.trans hW1)
    have v2 : W1.cell? ⟨w.heap.size, 2, none⟩ = some (.int .i64 7) := hB1.out.cell_ rfl
    have v3 : W1.cell? ⟨w.heap.size, 3, none⟩ = some (.string (txt o.acct)) := hB1.out.cell_ rfl
    have v4 : W1.cell? ⟨w.heap.size, 4, none⟩ = some (.string (txt o.peer)) := hB1.out.cell_ rfl
    have v5 : W1.cell? ⟨w.heap.size, 5, none⟩ = some (.int .i64 o.sum) := hB1.out.cell_ rfl
    have v6 : W1.cell? ⟨w.heap.size, 6, none⟩ = some (.slice L.a L.n L.c) := hB1.out.cell_ rfl
    have v7 : W1.cell? ⟨w.heap.size, 7, none⟩ = some (.int .i64 o.per) := hB1.out.cell_ rfl
    have v8 : W1.cell? ⟨w.heap.size, 8, none⟩ = some (.int .i64 o.hold) := hB1.out.cell_ rfl
    have v9 : W1.cell? ⟨w.heap.size, 9, none⟩ = some (.string (txt o.note)) := hB1.out.cell_ rfl
    clear g0 g1 g2 g3 g4 g5 g6 g7 g8 g9 kb ks u2
    go_wp2_with fail
    with_reducible refine (kN.out _).mono ?_
    rintro e w2 ⟨rfl, hw2⟩
    dsimp only
    cases hw2
    rw [show (txt o.acct).data.toList = o.acct by simp [txt]]
    cases hn : nameB o.acct
    all_goals
      go_wp2_with fail
      all_goals (go_ret; refine ⟨?_, hW1.out⟩; unfold fits7; first | (simp_all [periodB, heldB]; done) | (simp_all [periodB, heldB]; omega))
  · rw [decide_eq_false hob, Bool.false_and]
    replace hob := Lib.hid hob
    have hB0 := Lib.hid (Blk.new w 30 #[.int .i64 o.c, .int .i64 o.s, .int .i64 7, .string (txt o.acct), .string (txt o.peer), .int .i64 o.sum, .slice L.a L.n L.c, .int .i64 o.per, .int .i64 o.hold, .string (txt o.note)])
    have hm0 := Lib.hid ((Mod.refl none_ w).alloc (.cells #[.int .i64 o.c, .int .i64 o.s, .int .i64 7, .string (txt o.acct), .string (txt o.peer), .int .i64 o.sum, .slice L.a L.n L.c, .int .i64 o.per, .int .i64 o.hold, .string (txt o.note)] 30))
    go_enter Tryz.func48, Tryz.ntmps48
    go_upto_region 1 with fail
    obtain ⟨W0, hW0⟩ : ∃ W0, W0 = (w.alloc (.cells #[.int .i64 o.c, .int .i64 o.s, .int .i64 7, .string (txt o.acct), .string (txt o.peer), .int .i64 o.sum, .slice L.a L.n L.c, .int .i64 o.per, .int .i64 o.hold, .string (txt o.note)] 30)) := ⟨_, rfl⟩
    rw [← hW0] at hB0 hm0 ⊢
    replace hW0 := Lib.hid hW0
    have hcne : Nonempty (Cls (Mod none_ W0)) := ⟨⟨_, Mod.refl _ _⟩⟩
    have u2 : W0.cell? ⟨w.heap.size, 2, none⟩ = some (.int .i64 7) := hB0.out.cell_ rfl
    have g0 : ∀ s : Cls (Mod none_ W0), s.W.cell? ⟨w.heap.size, 0, none⟩ = some (.int .i64 o.c) := fun s => (hB0.out.mod s.ok (fun h => h)).cell_ rfl
    have g1 : ∀ s : Cls (Mod none_ W0), s.W.cell? ⟨w.heap.size, 1, none⟩ = some (.int .i64 o.s) := fun s => (hB0.out.mod s.ok (fun h => h)).cell_ rfl
    have g2 : ∀ s : Cls (Mod none_ W0), s.W.cell? ⟨w.heap.size, 2, none⟩ = some (.int .i64 7) := fun s => (hB0.out.mod s.ok (fun h => h)).cell_ rfl
    have g3 : ∀ s : Cls (Mod none_ W0), s.W.cell? ⟨w.heap.size, 3, none⟩ = some (.string (txt o.acct)) := fun s => (hB0.out.mod s.ok (fun h => h)).cell_ rfl
    have g4 : ∀ s : Cls (Mod none_ W0), s.W.cell? ⟨w.heap.size, 4, none⟩ = some (.string (txt o.peer)) := fun s => (hB0.out.mod s.ok (fun h => h)).cell_ rfl
    have g5 : ∀ s : Cls (Mod none_ W0), s.W.cell? ⟨w.heap.size, 5, none⟩ = some (.int .i64 o.sum) := fun s => (hB0.out.mod s.ok (fun h => h)).cell_ rfl
    have g6 : ∀ s : Cls (Mod none_ W0), s.W.cell? ⟨w.heap.size, 6, none⟩ = some (.slice L.a L.n L.c) := fun s => (hB0.out.mod s.ok (fun h => h)).cell_ rfl
    have g7 : ∀ s : Cls (Mod none_ W0), s.W.cell? ⟨w.heap.size, 7, none⟩ = some (.int .i64 o.per) := fun s => (hB0.out.mod s.ok (fun h => h)).cell_ rfl
    have g8 : ∀ s : Cls (Mod none_ W0), s.W.cell? ⟨w.heap.size, 8, none⟩ = some (.int .i64 o.hold) := fun s => (hB0.out.mod s.ok (fun h => h)).cell_ rfl
    have g9 : ∀ s : Cls (Mod none_ W0), s.W.cell? ⟨w.heap.size, 9, none⟩ = some (.string (txt o.note)) := fun s => (hB0.out.mod s.ok (fun h => h)).cell_ rfl
    have kb := fun s : Cls (Mod none_ W0) => (rbare_7 s.W o L hk.out b ⟨none, 0, 0⟩ hb.out rfl).mono (fun e w' (h : _ ∧ _) => (⟨h.1, s.ok.trans h.2⟩ : _ ∧ Mod none_ W0 w'))
    have ks := fun s : Cls (Mod none_ W0) => (same6_ok s.W o b L ⟨none, 0, 0⟩ (hO.out.mod0 (hm0.out.trans s.ok)) (hOb.out _) hL (Nat.zero_le _)).mono (fun e w' (h : _ ∧ _) => (⟨h.1, s.ok.trans h.2⟩ : _ ∧ Mod none_ W0 w'))
    rw [hk.out] at kb ks
    replace kb := Lib.hid kb
    rw [decide_eq_false hob.out] at ks
    replace ks := Lib.hid ks
    go_wp2_with fail
    refine wp_region_cls (Mod none_ W0) (by kernel_rfl) (by kernel_rfl) (Mod.refl none_ _).drew ?_
    try simp only [List.append_eq, List.cons_append, List.nil_append]
    repeat (go_big_quiet_step ((first | (go_at_call 75; exact cls_of (kb.out _)) | (go_at_call 57; exact cls_of (ks.out _)))))
    refine wpQuiet_nil ?_
    rintro W1 ⟨⟨_, hW1⟩, rfl⟩
    have hB1 := Lib.hid (hB0.out.mod hW1 (fun h => h))
    replace hW1 := Lib.hid (hm0.out.trans hW1)
    go_wp2_with fail
    go_ret
    exact ⟨rfl, hW1.out⟩
end Go.Proofs.YtimlfdihodoolaaGreat
