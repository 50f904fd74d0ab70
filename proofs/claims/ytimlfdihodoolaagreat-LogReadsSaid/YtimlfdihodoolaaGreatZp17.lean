import Derived.Test.YtimlfdihodoolaaGreatZp16
/-
  The reference's order.Right: Post; and whole. No condition.
-/
namespace Go.Proofs.YtimlfdihodoolaaGreat
set_option linter.unusedVariables false
set_option linter.unusedSimpArgs false
open Go.RowKit
set_option maxRecDepth 100000 in
set_option maxHeartbeats 8000000 in
theorem r06_2 (w : World) (o : Od) (L : SV) (hO : OdM w o L) (hL : L.n ≤ 140737488355328) (hk : o.k = 2) (hi : 0 ≤ o.c ∧ o.c ≤ 9 ∧ 1 ≤ o.s ∧ o.s ≤ 999) (hz : ∀ l ∈ o.legs, (txt l.n).size ≤ maxLen) :
    Calls Tryz.prog 48 #[.agg #[.int .i64 o.c, .int .i64 o.s, .int .i64 o.k, .string (txt o.acct), .string (txt o.peer), .int .i64 o.sum, .slice L.a L.n L.c, .int .i64 o.per, .int .i64 o.hold, .string (txt o.note)]] w fun e w' => e = .returned (.bool (decide (o = bare2 o) && fits2 o)) ∧ Mod none_ w w' := by
  obtain ⟨b, hb⟩ : ∃ b, b = bare2 o := ⟨_, rfl⟩
  rw [← hb, hk]
  have hOb : ∀ W, OdM W o L → OdM W b L := fun W h => by rw [hb]; exact ⟨h.rd, h.cap⟩
  have d0 : decide (o.c < 0) = false := decide_eq_false (by omega)
  have d1 : decide (9 < o.c) = false := decide_eq_false (by omega)
  have d2 : decide (o.s < 1) = false := decide_eq_false (by omega)
  have d3 : decide (999 < o.s) = false := decide_eq_false (by omega)
  have hln := Lib.hid hO.rd.len
  replace hO := Lib.hid hO
  replace hb := Lib.hid hb
  replace hOb := Lib.hid hOb
  replace hk := Lib.hid hk
  replace hi := Lib.hid hi
  replace hz := Lib.hid hz
  by_cases hob : o = b
  · rw [decide_eq_true hob, Bool.true_and]
    replace hob := Lib.hid hob
    have hB0 := Lib.hid (Blk.new w 30 #[.int .i64 o.c, .int .i64 o.s, .int .i64 2, .string (txt o.acct), .string (txt o.peer), .int .i64 o.sum, .slice L.a L.n L.c, .int .i64 o.per, .int .i64 o.hold, .string (txt o.note)])
    have hm0 := Lib.hid ((Mod.refl none_ w).alloc (.cells #[.int .i64 o.c, .int .i64 o.s, .int .i64 2, .string (txt o.acct), .string (txt o.peer), .int .i64 o.sum, .slice L.a L.n L.c, .int .i64 o.per, .int .i64 o.hold, .string (txt o.note)] 30))
    go_enter Tryz.func48, Tryz.ntmps48
    go_upto_region 1 with fail
    obtain ⟨W0, hW0⟩ : ∃ W0, W0 = (w.alloc (.cells #[.int .i64 o.c, .int .i64 o.s, .int .i64 2, .string (txt o.acct), .string (txt o.peer), .int .i64 o.sum, .slice L.a L.n L.c, .int .i64 o.per, .int .i64 o.hold, .string (txt o.note)] 30)) := ⟨_, rfl⟩
    rw [← hW0] at hB0 hm0 ⊢
    replace hW0 := Lib.hid hW0
    have hcne : Nonempty (Cls (Mod none_ W0)) := ⟨⟨_, Mod.refl _ _⟩⟩
    have u2 : W0.cell? ⟨w.heap.size, 2, none⟩ = some (.int .i64 2) := hB0.out.cell_ rfl
    have g0 : ∀ s : Cls (Mod none_ W0), s.W.cell? ⟨w.heap.size, 0, none⟩ = some (.int .i64 o.c) := fun s => (hB0.out.mod s.ok (fun h => h)).cell_ rfl
    have g1 : ∀ s : Cls (Mod none_ W0), s.W.cell? ⟨w.heap.size, 1, none⟩ = some (.int .i64 o.s) := fun s => (hB0.out.mod s.ok (fun h => h)).cell_ rfl
    have g2 : ∀ s : Cls (Mod none_ W0), s.W.cell? ⟨w.heap.size, 2, none⟩ = some (.int .i64 2) := fun s => (hB0.out.mod s.ok (fun h => h)).cell_ rfl
    have g3 : ∀ s : Cls (Mod none_ W0), s.W.cell? ⟨w.heap.size, 3, none⟩ = some (.string (txt o.acct)) := fun s => (hB0.out.mod s.ok (fun h => h)).cell_ rfl
    have g4 : ∀ s : Cls (Mod none_ W0), s.W.cell? ⟨w.heap.size, 4, none⟩ = some (.string (txt o.peer)) := fun s => (hB0.out.mod s.ok (fun h => h)).cell_ rfl
    have g5 : ∀ s : Cls (Mod none_ W0), s.W.cell? ⟨w.heap.size, 5, none⟩ = some (.int .i64 o.sum) := fun s => (hB0.out.mod s.ok (fun h => h)).cell_ rfl
    have g6 : ∀ s : Cls (Mod none_ W0), s.W.cell? ⟨w.heap.size, 6, none⟩ = some (.slice L.a L.n L.c) := fun s => (hB0.out.mod s.ok (fun h => h)).cell_ rfl
    have g7 : ∀ s : Cls (Mod none_ W0), s.W.cell? ⟨w.heap.size, 7, none⟩ = some (.int .i64 o.per) := fun s => (hB0.out.mod s.ok (fun h => h)).cell_ rfl
    have g8 : ∀ s : Cls (Mod none_ W0), s.W.cell? ⟨w.heap.size, 8, none⟩ = some (.int .i64 o.hold) := fun s => (hB0.out.mod s.ok (fun h => h)).cell_ rfl
    have g9 : ∀ s : Cls (Mod none_ W0), s.W.cell? ⟨w.heap.size, 9, none⟩ = some (.string (txt o.note)) := fun s => (hB0.out.mod s.ok (fun h => h)).cell_ rfl
    have kb := fun s : Cls (Mod none_ W0) => (rbare_2 s.W o L hk.out b L hb.out rfl).mono (fun e w' (h : _ ∧ _) => (⟨h.1, s.ok.trans h.2⟩ : _ ∧ Mod none_ W0 w'))
    have ks := fun s : Cls (Mod none_ W0) => (same6_ok s.W o b L L (hO.out.mod0 (hm0.out.trans s.ok)) (hOb.out _ (hO.out.mod0 (hm0.out.trans s.ok))) hL hL).mono (fun e w' (h : _ ∧ _) => (⟨h.1, s.ok.trans h.2⟩ : _ ∧ Mod none_ W0 w'))
    rw [hk.out] at kb ks
    replace kb := Lib.hid kb
    rw [decide_eq_true hob.out] at ks
    replace ks := Lib.hid ks
    go_wp2_with fail
    refine wp_region_cls (Mod none_ W0) (by kernel_rfl) (by kernel_rfl) (Mod.refl none_ _).drew ?_
    try simp only [List.append_eq, List.cons_append, List.nil_append]
    repeat (go_big_quiet_step ((first | (go_at_call 75; exact cls_of (kb.out _)) | (go_at_call 57; exact cls_of (ks.out _)))))
    refine wpQuiet_nil ?_
    rintro W1 ⟨⟨_, hW1⟩, rfl⟩
    have hB1 := Lib.hid (hB0.out.mod hW1 (fun h => h))
    replace hW1 := Lib.hid (hm0.out.trans hW1)
    have v2 : W1.cell? ⟨w.heap.size, 2, none⟩ = some (.int .i64 2) := hB1.out.cell_ rfl
    have v3 : W1.cell? ⟨w.heap.size, 3, none⟩ = some (.string (txt o.acct)) := hB1.out.cell_ rfl
    have v4 : W1.cell? ⟨w.heap.size, 4, none⟩ = some (.string (txt o.peer)) := hB1.out.cell_ rfl
    have v5 : W1.cell? ⟨w.heap.size, 5, none⟩ = some (.int .i64 o.sum) := hB1.out.cell_ rfl
    have v6 : W1.cell? ⟨w.heap.size, 6, none⟩ = some (.slice L.a L.n L.c) := hB1.out.cell_ rfl
    have v7 : W1.cell? ⟨w.heap.size, 7, none⟩ = some (.int .i64 o.per) := hB1.out.cell_ rfl
    have v8 : W1.cell? ⟨w.heap.size, 8, none⟩ = some (.int .i64 o.hold) := hB1.out.cell_ rfl
    have v9 : W1.cell? ⟨w.heap.size, 9, none⟩ = some (.string (txt o.note)) := hB1.out.cell_ rfl
    clear g0 g1 g2 g3 g4 g5 g6 g7 g8 g9 kb ks u2
    by_cases hper : 1 ≤ o.per ∧ o.per ≤ 1000
    · have p1 : decide (o.per < 1) = false := decide_eq_false (by omega)
      have p2 : decide (1000 < o.per) = false := decide_eq_false (by omega)
      have hf : fits2 o = (legsB o.legs && decide (o.note.length ≤ 20)) := by unfold fits2 periodB; rw [decide_eq_true hper, Bool.true_and]
      replace hper := Lib.hid hper
      replace hf := Lib.hid hf
      go_wp2_with fail
      clear v2 v3 v4 v5 v6 v7 v8 v9
      go_loopw [5] (fun x wr => ∃ j : Nat, x = .int .i64 j ∧ j ≤ L.n ∧ (∀ l ∈ o.legs.take j, okLeg l = true) ∧ ((o.legs.take j).map fun l => l.n).Nodup ∧ ∃ q, wr = W1.drewN q) (fun x _ => L.n - (intOf x).toNat)
      case atStart => exact ⟨0, rfl, by omega, (fun l h => by cases h), List.nodup_nil, 0, rfl⟩
      case round =>
        obtain ⟨j, rfl, hj, hall, hnd, q, hq⟩ := hrel
        have c6 : wr.cell? ⟨w.heap.size, 6, none⟩ = some (.slice L.a L.n L.c) := by rw [hq]; exact (hB1.out.drewN q).cell_ rfl
        have hmq := Lib.hid (show Mod none_ w wr by rw [hq]; exact hW1.out.drewN q)
        by_cases hlt : j < L.n
        · obtain ⟨g, f, x, e1, hxm, hx, a1, a2⟩ := rdl_get (w := wr) (Rd.mod0 hO.out.rd hmq.out) hlt
          have kN := Lib.hid (rname_ok wr (txt x.n) (hz.out x hxm))
          obtain ⟨w5, rfl⟩ : ∃ wf, wf = wr := ⟨_, rfl⟩
          have hE1 := Lib.hid e1
          rw [e1] at c6
          clear e1
          replace hxm := Lib.hid hxm
          replace hx := Lib.hid hx
          replace hall := Lib.hid hall
          replace hnd := Lib.hid hnd
          replace hq := Lib.hid hq
          go_wp2_with fail
          with_reducible refine kN.out.mono ?_
          rintro e w2 ⟨rfl, hw2⟩
          dsimp only
          subst hw2
          rw [show (txt x.n).data.toList = x.n by simp [txt]]
          cases hn : nameB x.n with
          | false =>
            have hno := Lib.hid (legsB_bad hxm.out (show okLeg x = false by unfold okLeg; rw [hn] <;> rfl))
            go_wp2_with fail
            go_ret
            exact ⟨by rw [hf.out, hno.out] <;> rfl, hmq.out⟩
          | true =>
            by_cases hx0 : x.x = 0
            · have hno := Lib.hid (legsB_bad hxm.out (show okLeg x = false by unfold okLeg; rw [hn, hx0] <;> rfl))
              have y1 : (x.x == 0) = true := by simp [hx0]
              have y2 : decide (x.x = 0) = true := decide_eq_true hx0
              replace hx0 := Lib.hid hx0
              go_wp2_with fail
              go_ret
              exact ⟨by rw [hf.out, hno.out] <;> rfl, hmq.out⟩
            · have hok := Lib.hid (show okLeg x = true by unfold okLeg; rw [hn]; simpa using hx0)
              have y1 : (x.x == 0) = false := by simpa using hx0
              have y2 : decide (x.x = 0) = false := decide_eq_false hx0
              replace hx0 := Lib.hid hx0
              go_wp2_with fail
              go_loopw [6] (fun y wr => ∃ p : Nat, y = .int .i64 p ∧ p ≤ j ∧ (∀ l ∈ o.legs.take p, l.n ≠ x.n) ∧ ∃ q, wr = W1.drewN q) (fun y _ => j - (intOf y).toNat)
              case atStart => exact ⟨0, rfl, by omega, (fun l h => by cases h), q, hq.out⟩
              case round =>
                obtain ⟨p, rfl, hp, hdf, q2, hq2⟩ := hrel
                have hmr := Lib.hid (show Mod none_ w wr by rw [hq2]; exact hW1.out.drewN q2)
                by_cases hlp : p < j
                · have c6' : wr.cell? ⟨w.heap.size, 6, none⟩ = some (.slice L.a L.n L.c) := by rw [hq2]; exact (hB1.out.drewN q2).cell_ rfl
                  obtain ⟨g1, f1, x1, e1, hxm1, hx1, a11, a12⟩ := rdl_get (w := wr) (Rd.mod0 hO.out.rd hmr.out) hlt
                  obtain rfl : x = x1 := by have := hx.out; rw [hx1] at this; exact (Option.some.inj this).symm
                  obtain ⟨g2, f2, y, e2, hym, hy, b1, b2⟩ := rdl_get (w := wr) (Rd.mod0 hO.out.rd hmr.out) (show p < L.n by omega)
                  rw [e1] at e2
                  cases e2
                  rw [e1] at c6'
                  clear a1 a2 c6 a12 b2 hx1
                  by_cases hyx : y.n = x.n
                  · have hno := Lib.hid (legsB_two hx.out (by rw [← hyx]; exact List.mem_map_of_mem (List.mem_of_getElem? (i := p) (by rw [List.getElem?_take_of_lt hlp]; exact hy))))
                    rw [hyx] at b1
                    replace hyx := Lib.hid hyx
                    replace hdf := Lib.hid hdf
                    replace hq2 := Lib.hid hq2
                    replace e1 := Lib.hid e1
                    replace hxm1 := Lib.hid hxm1
                    replace hym := Lib.hid hym
                    replace hy := Lib.hid hy
                    go_wp2_with (go_quiet (fail))
                    go_ret
                    exact ⟨by rw [hf.out, hno.out] <;> rfl, hmr.out.drewN _⟩
                  · have hdf' := Lib.hid (show ∀ l ∈ o.legs.take (p + 1), l.n ≠ x.n by
                      intro l hl
                      rw [List.take_add_one, hy] at hl
                      rcases List.mem_append.1 hl with hl | hl
                      · exact hdf l hl
                      · simp at hl; subst hl; exact hyx)
                    have ht : (y.n == x.n) = false := by simpa using hyx
                    have ht2 : ¬ y.n = x.n := hyx
                    clear hdf
                    replace hyx := Lib.hid hyx
                    replace hq2 := Lib.hid hq2
                    replace e1 := Lib.hid e1
                    replace hxm1 := Lib.hid hxm1
                    replace hym := Lib.hid hym
                    replace hy := Lib.hid hy
                    go_wp2_with (go_quiet (fail))
                    go_roundw
                    case rel => exact ⟨p + 1, by go_num, by omega, hdf'.out, _, by rw [hq2.out, World.drewN_drewN]⟩
                    case measure => simp [intOf]; omega
                · obtain rfl : p = j := by omega
                  have hall' := Lib.hid (show ∀ l ∈ o.legs.take (p + 1), okLeg l = true by
                    intro l hl
                    rw [List.take_add_one, hx.out] at hl
                    rcases List.mem_append.1 hl with hl | hl
                    · exact hall.out l hl
                    · simp at hl; subst hl; exact hok.out)
                  have hnd' := Lib.hid (show ((o.legs.take (p + 1)).map fun l => l.n).Nodup by
                    rw [List.take_add_one, hx.out, List.map_append, List.nodup_append]
                    refine ⟨hnd.out, by simp, fun a ha b' hb' => ?_⟩
                    simp at hb'
                    subst hb'
                    obtain ⟨l, hl, rfl⟩ := List.mem_map.1 ha
                    exact hdf l hl)
                  clear hdf a1 a2 c6
                  replace hq2 := Lib.hid hq2
                  go_wp2_with fail
                  go_roundw
                  case measure => simp [intOf]; omega
                  case rel => exact ⟨p + 1, by go_num, by omega, hall'.out, hnd'.out, q2, hq2.out⟩
        · obtain rfl : j = L.n := by omega
          have hll : Hid (legsB o.legs = (decide (2 ≤ o.legs.length) && decide (o.legs.length ≤ 6))) := Lib.hid (by
            rw [List.take_of_length_le (by rw [hln.out]; exact Nat.le_refl _)] at hall hnd
            unfold legsB
            rw [List.all_eq_true.2 hall, decide_eq_true hnd, Bool.true_and, Bool.true_and])
          have c9 : wr.cell? ⟨w.heap.size, 9, none⟩ = some (.string (txt o.note)) := by rw [hq]; exact (hB1.out.drewN q).cell_ rfl
          have hts : (txt o.note).size = o.note.length := by simp [txt, ByteArray.size]
          replace hall := Lib.hid hall
          replace hnd := Lib.hid hnd
          replace hq := Lib.hid hq
          go_wp2_with fail
          all_goals (go_ret; refine ⟨?_, hmq.out⟩; rw [hf.out, hll.out, hln.out, ← hts]; simp_all; try (first | omega | (rw [decide_eq_true (show 2 ≤ L.n by omega), decide_eq_true (show L.n ≤ 6 by omega), Bool.true_and, Bool.true_and]; exact decide_eq_decide.2 (by omega))))
    · have hf : fits2 o = false := by unfold fits2 periodB; rw [decide_eq_false hper, Bool.false_and, Bool.and_false]
      replace hf := Lib.hid hf
      replace hper := Lib.hid hper
      go_wp2_with fail
      all_goals (go_ret; refine ⟨?_, hW1.out⟩; rw [hf.out]; first | rfl | (have := hper.out; simp_all; done) | (have := hper.out; exfalso; omega))
  · rw [decide_eq_false hob, Bool.false_and]
    replace hob := Lib.hid hob
    have hB0 := Lib.hid (Blk.new w 30 #[.int .i64 o.c, .int .i64 o.s, .int .i64 2, .string (txt o.acct), .string (txt o.peer), .int .i64 o.sum, .slice L.a L.n L.c, .int .i64 o.per, .int .i64 o.hold, .string (txt o.note)])
    have hm0 := Lib.hid ((Mod.refl none_ w).alloc (.cells #[.int .i64 o.c, .int .i64 o.s, .int .i64 2, .string (txt o.acct), .string (txt o.peer), .int .i64 o.sum, .slice L.a L.n L.c, .int .i64 o.per, .int .i64 o.hold, .string (txt o.note)] 30))
    go_enter Tryz.func48, Tryz.ntmps48
    go_upto_region 1 with fail
    obtain ⟨W0, hW0⟩ : ∃ W0, W0 = (w.alloc (.cells #[.int .i64 o.c, .int .i64 o.s, .int .i64 2, .string (txt o.acct), .string (txt o.peer), .int .i64 o.sum, .slice L.a L.n L.c, .int .i64 o.per, .int .i64 o.hold, .string (txt o.note)] 30)) := ⟨_, rfl⟩
    rw [← hW0] at hB0 hm0 ⊢
    replace hW0 := Lib.hid hW0
    have hcne : Nonempty (Cls (Mod none_ W0)) := ⟨⟨_, Mod.refl _ _⟩⟩
    have u2 : W0.cell? ⟨w.heap.size, 2, none⟩ = some (.int .i64 2) := hB0.out.cell_ rfl
    have g0 : ∀ s : Cls (Mod none_ W0), s.W.cell? ⟨w.heap.size, 0, none⟩ = some (.int .i64 o.c) := fun s => (hB0.out.mod s.ok (fun h => h)).cell_ rfl
    have g1 : ∀ s : Cls (Mod none_ W0), s.W.cell? ⟨w.heap.size, 1, none⟩ = some (.int .i64 o.s) := fun s => (hB0.out.mod s.ok (fun h => h)).cell_ rfl
    have g2 : ∀ s : Cls (Mod none_ W0), s.W.cell? ⟨w.heap.size, 2, none⟩ = some (.int .i64 2) := fun s => (hB0.out.mod s.ok (fun h => h)).cell_ rfl
    have g3 : ∀ s : Cls (Mod none_ W0), s.W.cell? ⟨w.heap.size, 3, none⟩ = some (.string (txt o.acct)) := fun s => (hB0.out.mod s.ok (fun h => h)).cell_ rfl
    have g4 : ∀ s : Cls (Mod none_ W0), s.W.cell? ⟨w.heap.size, 4, none⟩ = some (.string (txt o.peer)) := fun s => (hB0.out.mod s.ok (fun h => h)).cell_ rfl
    have g5 : ∀ s : Cls (Mod none_ W0), s.W.cell? ⟨w.heap.size, 5, none⟩ = some (.int .i64 o.sum) := fun s => (hB0.out.mod s.ok (fun h => h)).cell_ rfl
    have g6 : ∀ s : Cls (Mod none_ W0), s.W.cell? ⟨w.heap.size, 6, none⟩ = some (.slice L.a L.n L.c) := fun s => (hB0.out.mod s.ok (fun h => h)).cell_ rfl
    have g7 : ∀ s : Cls (Mod none_ W0), s.W.cell? ⟨w.heap.size, 7, none⟩ = some (.int .i64 o.per) := fun s => (hB0.out.mod s.ok (fun h => h)).cell_ rfl
    have g8 : ∀ s : Cls (Mod none_ W0), s.W.cell? ⟨w.heap.size, 8, none⟩ = some (.int .i64 o.hold) := fun s => (hB0.out.mod s.ok (fun h => h)).cell_ rfl
    have g9 : ∀ s : Cls (Mod none_ W0), s.W.cell? ⟨w.heap.size, 9, none⟩ = some (.string (txt o.note)) := fun s => (hB0.out.mod s.ok (fun h => h)).cell_ rfl
    have kb := fun s : Cls (Mod none_ W0) => (rbare_2 s.W o L hk.out b L hb.out rfl).mono (fun e w' (h : _ ∧ _) => (⟨h.1, s.ok.trans h.2⟩ : _ ∧ Mod none_ W0 w'))
    have ks := fun s : Cls (Mod none_ W0) => (same6_ok s.W o b L L (hO.out.mod0 (hm0.out.trans s.ok)) (hOb.out _ (hO.out.mod0 (hm0.out.trans s.ok))) hL hL).mono (fun e w' (h : _ ∧ _) => (⟨h.1, s.ok.trans h.2⟩ : _ ∧ Mod none_ W0 w'))
    rw [hk.out] at kb ks
    replace kb := Lib.hid kb
    rw [decide_eq_false hob.out] at ks
    replace ks := Lib.hid ks
    go_wp2_with fail
    refine wp_region_cls (Mod none_ W0) (by kernel_rfl) (by kernel_rfl) (Mod.refl none_ _).drew ?_
    try simp only [List.append_eq, List.cons_append, List.nil_append]
    repeat (go_big_quiet_step ((first | (go_at_call 75; exact cls_of (kb.out _)) | (go_at_call 57; exact cls_of (ks.out _)))))
    refine wpQuiet_nil ?_
    rintro W1 ⟨⟨_, hW1⟩, rfl⟩
    have hB1 := Lib.hid (hB0.out.mod hW1 (fun h => h))
    replace hW1 := Lib.hid (hm0.out.trans hW1)
    go_wp2_with fail
    go_ret
    exact ⟨rfl, hW1.out⟩
end Go.Proofs.YtimlfdihodoolaaGreat
/-
  The reference's order.Right, whole. No condition.
-/
namespace Go.Proofs.YtimlfdihodoolaaGreat
set_option linter.unusedVariables false
set_option linter.unusedSimpArgs false
open Go.RowKit
theorem r06right_ok (w : World) (o : Od) (L : SV) (hO : OdM w o L) (hL : L.n ≤ 140737488355328) (hz : ∀ l ∈ o.legs, (txt l.n).size ≤ maxLen) (ta : (txt o.acct).size ≤ maxLen) (tp : (txt o.peer).size ≤ maxLen) :
    Calls Tryz.prog 48 #[.agg #[.int .i64 o.c, .int .i64 o.s, .int .i64 o.k, .string (txt o.acct), .string (txt o.peer), .int .i64 o.sum, .slice L.a L.n L.c, .int .i64 o.per, .int .i64 o.hold, .string (txt o.note)]] w fun e w' => e = .returned (.bool (rightO o)) ∧ Mod none_ w w' := by
  unfold rightO kindB idB
  by_cases hi : 0 ≤ o.c ∧ o.c ≤ 9 ∧ 1 ≤ o.s ∧ o.s ≤ 999
  · rw [decide_eq_true hi, Bool.true_and]
    by_cases h1 : o.k = 1
    · rw [if_pos h1]; exact r06_1 w o L hO hL h1 hi ta tp
    rw [if_neg h1]
    by_cases h2 : o.k = 2
    · rw [if_pos h2]; exact r06_2 w o L hO hL h2 hi hz
    rw [if_neg h2]
    by_cases h3 : o.k = 3
    · rw [if_pos h3]; exact r06_3 w o L hO hL h3 hi ta tp
    rw [if_neg h3]
    by_cases h4 : o.k = 4
    · rw [if_pos h4]; exact r06_4 w o L hO hL h4 hi ta tp
    rw [if_neg h4]
    by_cases h5 : o.k = 5
    · rw [if_pos h5]; exact r06_5 w o L hO hL h5 hi ta tp
    rw [if_neg h5]
    by_cases h6 : o.k = 6
    · rw [if_pos h6]; exact r06_6 w o L hO hL h6 hi ta tp
    rw [if_neg h6]
    by_cases h7 : o.k = 7
    · rw [if_pos h7]; exact r06_7 w o L hO hL h7 hi ta tp
    rw [if_neg h7]
    exact r06_no w o L (by omega)
  · rw [decide_eq_false hi, Bool.false_and]
    exact r06_no w o L (by omega)
end Go.Proofs.YtimlfdihodoolaaGreat
