import Derived.Test.YtdekehhmjehicaaGreatQp6
import Derived.Test.YtdekehhmjehicaaGreatQp1
import Derived.Deep.RegionHeld3
import Derived.Deep.RegionLaw
import Derived.Test.YtdekehhmjehicaaGreatQp4
import Derived.Test.YtdekehhmjehicaaGreatQp2
import Derived.BigQuiet
import Derived.Deep.LoopGhost
/-
  The reference's order.Right: Post; and whole. No condition.
-/
namespace Go.Proofs.YtdekehhmjehicaaGreat
set_option linter.unusedVariables false
set_option linter.unusedSimpArgs false
open Go.RowKit
set_option maxRecDepth 100000 in
set_option maxHeartbeats 8000000 in
theorem r06_2 (w : World) (o : Od) (L : SV) (hO : OdM w o L) (hL : L.n ≤ 140737488355328) (hk : o.k = 2) (hi : 0 ≤ o.c ∧ o.c ≤ 9 ∧ 1 ≤ o.s ∧ o.s ≤ 999) (hz : ∀ l ∈ o.legs, (txt l.n).size ≤ maxLen) :
    Calls Tryz.prog 73 #[.agg #[.int .i64 o.c, .int .i64 o.s, .int .i64 o.k, .string (txt o.acct), .string (txt o.peer), .int .i64 o.sum, .slice L.a L.n L.c, .int .i64 o.per, .int .i64 o.hold, .string (txt o.note)]] w fun e w' => e = .returned (.bool (decide (o = bare2 o) && fits2 o)) ∧ Mod none_ w w' := by
  obtain ⟨b, hb⟩ : ∃ b, b = bare2 o := ⟨_, rfl⟩
  rw [← hb, hk]
  have hOb : ∀ W, OdM W o L → OdM W b L := fun W h => by rw [hb]; exact ⟨h.rd, h.cap⟩
  have d0 : decide (o.c < 0) = false := decide_eq_false (by omega)
  have d1 : decide (9 < o.c) = false := decide_eq_false (by omega)
  have d2 : decide (o.s < 1) = false := decide_eq_false (by omega)
  have d3 : decide (999 < o.s) = false := decide_eq_false (by omega)
  have hln := Lib.hid hO.rd.len
  replace hO := Lib.hid hO
  replace hb := Lib.hid hb
  replace hOb := Lib.hid hOb
  replace hk := Lib.hid hk
  replace hi := Lib.hid hi
  replace hz := Lib.hid hz
  by_cases hob : o = b
  · rw [decide_eq_true hob, Bool.true_and]
    replace hob := Lib.hid hob
    have hB0 := Lib.hid (Blk.new w 41 #[.int .i64 o.c, .int .i64 o.s, .int .i64 2, .string (txt o.acct), .string (txt o.peer), .int .i64 o.sum, .slice L.a L.n L.c, .int .i64 o.per, .int .i64 o.hold, .string (txt o.note)])
    have hm0 := Lib.hid ((Mod.refl none_ w).alloc (.cells #[.int .i64 o.c, .int .i64 o.s, .int .i64 2, .string (txt o.acct), .string (txt o.peer), .int .i64 o.sum, .slice L.a L.n L.c, .int .i64 o.per, .int .i64 o.hold, .string (txt o.note)] 41))
    go_enter Tryz.func73, Tryz.ntmps73
    go_upto_region 1 with fail
    obtain ⟨W0, hW0⟩ : ∃ W0, W0 = (w.alloc (.cells #[.int .i64 o.c, .int .i64 o.s, .int .i64 2, .string (txt o.acct), .string (txt o.peer), .int .i64 o.sum, .slice L.a L.n L.c, .int .i64 o.per, .int .i64 o.hold, .string (txt o.note)] 41)) := ⟨_, rfl⟩
    rw [← hW0] at hB0 hm0 ⊢
    replace hW0 := Lib.hid hW0
    have hcne : Nonempty (Cls (Mod none_ W0)) := ⟨⟨_, Mod.refl _ _⟩⟩
    have u2 : W0.cell? ⟨w.heap.size, 2, none⟩ = some (.int .i64 2) := hB0.out.cell_ rfl
    have g0 : ∀ s : Cls (Mod none_ W0), s.W.cell? ⟨w.heap.size, 0, none⟩ = some (.int .i64 o.c) := fun s => (hB0.out.mod s.ok (fun h => h)).cell_ rfl
    have g1 : ∀ s : Cls (Mod none_ W0), s.W.cell? ⟨w.heap.size, 1, none⟩ = some (.int .i64 o.s) := fun s => (hB0.out.mod s.ok (fun h => h)).cell_ rfl
    have g2 : ∀ s : Cls (Mod none_ W0), s.W.cell? ⟨w.heap.size, 2, none⟩ = some (.int .i64 2) := fun s => (hB0.out.mod s.ok (fun h => h)).cell_ rfl
    have g3 : ∀ s : Cls (Mod none_ W0), s.W.cell? ⟨w.heap.size, 3, none⟩ = some (.string (txt o.acct)) := fun s => (hB0.out.mod s.ok (fun h => h)).cell_ rfl
    have g4 : ∀ s : Cls (Mod none_ W0), s.W.cell? ⟨w.heap.size, 4, none⟩ = some (.string (txt o.peer)) := fun s => (hB0.out.mod s.ok (fun h => h)).cell_ rfl
    have g5 : ∀ s : Cls (Mod none_ W0), s.W.cell? ⟨w.heap.size, 5, none⟩ = some (.int .i64 o.sum) := fun s => (hB0.out.mod s.ok (fun h => h)).cell_ rfl
    have g6 : ∀ s : Cls (Mod none_ W0), s.W.cell? ⟨w.heap.size, 6, none⟩ = some (.slice L.a L.n L.c) := fun s => (hB0.out.mod s.ok (fun h => h)).cell_ rfl
    have g7 : ∀ s : Cls (Mod none_ W0), s.W.cell? ⟨w.heap.size, 7, none⟩ = some (.int .i64 o.per) := fun s => (hB0.out.mod s.ok (fun h => h)).cell_ rfl
    have g8 : ∀ s : Cls (Mod none_ W0), s.W.cell? ⟨w.heap.size, 8, none⟩ = some (.int .i64 o.hold) := fun s => (hB0.out.mod s.ok (fun h => h)).cell_ rfl
    have g9 : ∀ s : Cls (Mod none_ W0), s.W.cell? ⟨w.heap.size, 9, none⟩ = some (.string (txt o.note)) := fun s => (hB0.out.mod s.ok (fun h => h)).cell_ rfl
    have kb := fun s : Cls (Mod none_ W0) => (rbare_2 s.W o L hk.out b L hb.out rfl).mono (fun e w' (h : _ ∧ _) => (⟨h.1, s.ok.trans h.2⟩ : _ ∧ Mod none_ W0 w'))
    have ks := fun s : Cls (Mod none_ W0) => (same6_ok s.W o b L L (hO.out.mod0 (hm0.out.trans s.ok)) (hOb.out _ (hO.out.mod0 (hm0.out.trans s.ok))) hL hL).mono (fun e w' (h : _ ∧ _) => (⟨h.1, s.ok.trans h.2⟩ : _ ∧ Mod none_ W0 w'))
    rw [hk.out] at kb ks
    replace kb := Lib.hid kb
    rw [decide_eq_true hob.out] at ks
    replace ks := Lib.hid ks
    go_wp2_with fail
    refine wp_region_cls (Mod none_ W0) (by kernel_rfl) (by kernel_rfl) (Mod.refl none_ _).drew ?_
    try simp only [List.append_eq, List.cons_append, List.nil_append]
    repeat (go_big_quiet_step ((first | (go_at_call 80; exact cls_of (kb.out _)) | (go_at_call 49; exact cls_of (ks.out _)))))
    refine wpQuiet_nil ?_
    rintro W1 ⟨⟨_, hW1⟩, rfl⟩
    have hB1 := Lib.hid (hB0.out.mod hW1 (fun h => h))
    replace hW1 := Lib.hid (hm0.out.trans hW1)
    have v2 : W1.cell? ⟨w.heap.size, 2, none⟩ = some (.int .i64 2) := hB1.out.cell_ rfl
    have v3 : W1.cell? ⟨w.heap.size, 3, none⟩ = some (.string (txt o.acct)) := hB1.out.cell_ rfl
    have v4 : W1.cell? ⟨w.heap.size, 4, none⟩ = some (.string (txt o.peer)) := hB1.out.cell_ rfl
    have v5 : W1.cell? ⟨w.heap.size, 5, none⟩ = some (.int .i64 o.sum) := hB1.out.cell_ rfl
    have v6 : W1.cell? ⟨w.heap.size, 6, none⟩ = some (.slice L.a L.n L.c) := hB1.out.cell_ rfl
    have v7 : W1.cell? ⟨w.heap.size, 7, none⟩ = some (.int .i64 o.per) := hB1.out.cell_ rfl
    have v8 : W1.cell? ⟨w.heap.size, 8, none⟩ = some (.int .i64 o.hold) := hB1.out.cell_ rfl
    have v9 : W1.cell? ⟨w.heap.size, 9, none⟩ = some (.string (txt o.note)) := hB1.out.cell_ rfl
    clear g0 g1 g2 g3 g4 g5 g6 g7 g8 g9 kb ks u2
    by_cases hper : 1 ≤ o.per ∧ o.per ≤ 1000
    · have p1 : decide (o.per < 1) = false := decide_eq_false (by omega)
      have p2 : decide (1000 < o.per) = false := decide_eq_false (by omega)
      have hf : fits2 o = (legsB o.legs && decide (o.note.length ≤ 20)) := by unfold fits2 periodB; rw [decide_eq_true hper, Bool.true_and]
      replace hper := Lib.hid hper
      replace hf := Lib.hid hf
      go_wp2_with fail
      clear v2 v3 v4 v5 v6 v7 v8 v9
      go_loopw [5] (fun x wr => ∃ j : Nat, x = .int .i64 j ∧ j ≤ L.n ∧ (∀ l ∈ o.legs.take j, okLeg l = true) ∧ ((o.legs.take j).map fun l => l.n).Nodup ∧ ∃ q, wr = W1.drewN q) (fun x _ => L.n - (intOf x).toNat)
      case atStart => exact ⟨0, rfl, by omega, (fun l h => by cases h), List.nodup_nil, 0, rfl⟩
      case round =>
        obtain ⟨j, rfl, hj, hall, hnd, q, hq⟩ := hrel
        have c6 : wr.cell? ⟨w.heap.size, 6, none⟩ = some (.slice L.a L.n L.c) := by rw [hq]; exact (hB1.out.drewN q).cell_ rfl
        have hmq := Lib.hid (show Mod none_ w wr by rw [hq]; exact hW1.out.drewN q)
        by_cases hlt : j < L.n
        · obtain ⟨g, f, x, e1, hxm, hx, a1, a2⟩ := rdl_get (w := wr) (Rd.mod0 hO.out.rd hmq.out) hlt
          have kN := Lib.hid (rname_ok wr (txt x.n) (hz.out x hxm))
          obtain ⟨w5, rfl⟩ : ∃ wf, wf = wr := ⟨_, rfl⟩
          have hE1 := Lib.hid e1
          rw [e1] at c6
          clear e1
          replace hxm := Lib.hid hxm
          replace hx := Lib.hid hx
          replace hall := Lib.hid hall
          replace hnd := Lib.hid hnd
          replace hq := Lib.hid hq
          go_wp2_with fail
          with_reducible refine kN.out.mono ?_
          rintro e w2 ⟨rfl, hw2⟩
          dsimp only
          subst hw2
          rw [show (txt x.n).data.toList = x.n by simp [txt]]
          cases hn : nameB x.n with
          | false =>
            have hno := Lib.hid (legsB_bad hxm.out (show okLeg x = false by unfold okLeg; rw [hn] <;> rfl))
            go_wp2_with fail
            go_ret
            exact ⟨by rw [hf.out, hno.out] <;> rfl, hmq.out⟩
          | true =>
            by_cases hx0 : x.x = 0
            · have hno := Lib.hid (legsB_bad hxm.out (show okLeg x = false by unfold okLeg; rw [hn, hx0] <;> rfl))
              have y1 : (x.x == 0) = true := by simp [hx0]
              have y2 : decide (x.x = 0) = true := decide_eq_true hx0
              replace hx0 := Lib.hid hx0
              go_wp2_with fail
              go_ret
              exact ⟨by rw [hf.out, hno.out] <;> rfl, hmq.out⟩
            · have hok := Lib.hid (show okLeg x = true by unfold okLeg; rw [hn]; simpa using hx0)
              have y1 : (x.x == 0) = false := by simpa using hx0
              have y2 : decide (x.x = 0) = false := decide_eq_false hx0
              replace hx0 := Lib.hid hx0
              go_wp2_with fail
              go_loopw [6] (fun y wr => ∃ p : Nat, y = .int .i64 p ∧ p ≤ j ∧ (∀ l ∈ o.legs.take p, l.n ≠ x.n) ∧ ∃ q, wr = W1.drewN q) (fun y _ => j - (intOf y).toNat)
              case atStart => exact ⟨0, rfl, by omega, (fun l h => by cases h), q, hq.out⟩
              case round =>
                obtain ⟨p, rfl, hp, hdf, q2, hq2⟩ := hrel
                have hmr := Lib.hid (show Mod none_ w wr by rw [hq2]; exact hW1.out.drewN q2)
                by_cases hlp : p < j
                · have c6' : wr.cell? ⟨w.heap.size, 6, none⟩ = some (.slice L.a L.n L.c) := by rw [hq2]; exact (hB1.out.drewN q2).cell_ rfl
                  obtain ⟨g1, f1, x1, e1, hxm1, hx1, a11, a12⟩ := rdl_get (w := wr) (Rd.mod0 hO.out.rd hmr.out) hlt
                  obtain rfl : x = x1 := by have := hx.out; rw [hx1] at this; exact (Option.some.inj this).symm
                  obtain ⟨g2, f2, y, e2, hym, hy, b1, b2⟩ := rdl_get (w := wr) (Rd.mod0 hO.out.rd hmr.out) (show p < L.n by omega)
                  rw [e1] at e2
                  cases e2
                  rw [e1] at c6'
                  clear a1 a2 c6 a12 b2 hx1
                  by_cases hyx : y.n = x.n
                  · have hno := Lib.hid (legsB_two hx.out (by rw [← hyx]; exact List.mem_map_of_mem (List.mem_of_getElem? (i := p) (by rw [List.getElem?_take_of_lt hlp]; exact hy))))
                    rw [hyx] at b1
                    replace hyx := Lib.hid hyx
                    replace hdf := Lib.hid hdf
                    replace hq2 := Lib.hid hq2
                    replace e1 := Lib.hid e1
                    replace hxm1 := Lib.hid hxm1
                    replace hym := Lib.hid hym
                    replace hy := Lib.hid hy
                    go_wp2_with (go_quiet (fail))
                    go_ret
                    exact ⟨by rw [hf.out, hno.out] <;> rfl, hmr.out.drewN _⟩
                  · have hdf' := Lib.hid (show ∀ l ∈ o.legs.take (p + 1), l.n ≠ x.n by
                      intro l hl
                      rw [List.take_add_one, hy] at hl
                      rcases List.mem_append.1 hl with hl | hl
                      · exact hdf l hl
                      · simp at hl; subst hl; exact hyx)
                    have ht : (y.n == x.n) = false := by simpa using hyx
                    have ht2 : ¬ y.n = x.n := hyx
                    clear hdf
                    replace hyx := Lib.hid hyx
                    replace hq2 := Lib.hid hq2
                    replace e1 := Lib.hid e1
                    replace hxm1 := Lib.hid hxm1
                    replace hym := Lib.hid hym
                    replace hy := Lib.hid hy
                    go_wp2_with (go_quiet (fail))
                    go_roundw
                    case rel => exact ⟨p + 1, by go_num, by omega, hdf'.out, _, by rw [hq2.out, World.drewN_drewN]⟩
                    case measure => simp [intOf]; omega
                · obtain rfl : p = j := by omega
                  have hall' := Lib.hid (show ∀ l ∈ o.legs.take (p + 1), okLeg l = true by
                    intro l hl
                    rw [List.take_add_one, hx.out] at hl
                    rcases List.mem_append.1 hl with hl | hl
                    · exact hall.out l hl
                    · simp at hl; subst hl; exact hok.out)
                  have hnd' := Lib.hid (show ((o.legs.take (p + 1)).map fun l => l.n).Nodup by
                    rw [List.take_add_one, hx.out, List.map_append, List.nodup_append]
                    refine ⟨hnd.out, by simp, fun a ha b' hb' => ?_⟩
                    simp at hb'
                    subst hb'
                    obtain ⟨l, hl, rfl⟩ := List.mem_map.1 ha
                    exact hdf l hl)
                  clear hdf a1 a2 c6
                  replace hq2 := Lib.hid hq2
                  go_wp2_with fail
                  go_roundw
                  case measure => simp [intOf]; omega
                  case rel => exact ⟨p + 1, by go_num, by omega, hall'.out, hnd'.out, q2, hq2.out⟩
        · obtain rfl : j = L.n := by omega
          have hll : Hid (legsB o.legs = (decide (2 ≤ o.legs.length) && decide (o.legs.length ≤ 6))) := Lib.hid (by
            rw [List.take_of_length_le (by rw [hln.out]; exact Nat.le_refl _)] at hall hnd
            unfold legsB
            rw [List.all_eq_true.2 hall, decide_eq_true hnd, Bool.true_and, Bool.true_and])
          have c9 : wr.cell? ⟨w.heap.size, 9, none⟩ = some (.string (txt o.note)) := by rw [hq]; exact (hB1.out.drewN q).cell_ rfl
          have hts : (txt o.note).size = o.note.length := by simp [txt, ByteArray.size]
          replace hall := Lib.hid hall
          replace hnd := Lib.hid hnd
          replace hq := Lib.hid hq
          go_wp2_with fail
          all_goals (go_ret; refine ⟨?_, hmq.out⟩; rw [hf.out, hll.out, hln.out, ← hts]; simp_all; try (first | omega | (rw [decide_eq_true (show 2 ≤ L.n by omega), decide_eq_true (show L.n ≤ 6 by omega), Bool.true_and, Bool.true_and]; exact decide_eq_decide.2 (by omega))))
    · have hf : fits2 o = false := by unfold fits2 periodB; rw [decide_eq_false hper, Bool.false_and, Bool.and_false]
      replace hf := Lib.hid hf
      replace hper := Lib.hid hper
      go_wp2_with fail
      all_goals (go_ret; refine ⟨?_, hW1.out⟩; rw [hf.out]; first | rfl | (have := hper.out; simp_all; done) | (have := hper.out; exfalso; omega))
  · rw [decide_eq_false hob, Bool.false_and]
    replace hob := Lib.hid hob
    have hB0 := Lib.hid (Blk.new w 41 #[.int .i64 o.c, .int .i64 o.s, .int .i64 2, .string (txt o.acct), .string (txt o.peer), .int .i64 o.sum, .slice L.a L.n L.c, .int .i64 o.per, .int .i64 o.hold, .string (txt o.note)])
    have hm0 := Lib.hid ((Mod.refl none_ w).alloc (.cells #[.int .i64 o.c, .int .i64 o.s, .int .i64 2, .string (txt o.acct), .string (txt o.peer), .int .i64 o.sum, .slice L.a L.n L.c, .int .i64 o.per, .int .i64 o.hold, .string (txt o.note)] 41))
    go_enter Tryz.func73, Tryz.ntmps73
    go_upto_region 1 with fail
    obtain ⟨W0, hW0⟩ : ∃ W0, W0 = (w.alloc (.cells #[.int .i64 o.c, .int .i64 o.s, .int .i64 2, .string (txt o.acct), .string (txt o.peer), .int .i64 o.sum, .slice L.a L.n L.c, .int .i64 o.per, .int .i64 o.hold, .string (txt o.note)] 41)) := ⟨_, rfl⟩
    rw [← hW0] at hB0 hm0 ⊢
    replace hW0 := Lib.hid hW0
    have hcne : Nonempty (Cls (Mod none_ W0)) := ⟨⟨_, Mod.refl _ _⟩⟩
    have u2 : W0.cell? ⟨w.heap.size, 2, none⟩ = some (.int .i64 2) := hB0.out.cell_ rfl
    have g0 : ∀ s : Cls (Mod none_ W0), s.W.cell? ⟨w.heap.size, 0, none⟩ = some (.int .i64 o.c) := fun s => (hB0.out.mod s.ok (fun h => h)).cell_ rfl
    have g1 : ∀ s : Cls (Mod none_ W0), s.W.cell? ⟨w.heap.size, 1, none⟩ = some (.int .i64 o.s) := fun s => (hB0.out.mod s.ok (fun h => h)).cell_ rfl
    have g2 : ∀ s : Cls (Mod none_ W0), s.W.cell? ⟨w.heap.size, 2, none⟩ = some (.int .i64 2) := fun s => (hB0.out.mod s.ok (fun h => h)).cell_ rfl
    have g3 : ∀ s : Cls (Mod none_ W0), s.W.cell? ⟨w.heap.size, 3, none⟩ = some (.string (txt o.acct)) := fun s => (hB0.out.mod s.ok (fun h => h)).cell_ rfl
    have g4 : ∀ s : Cls (Mod none_ W0), s.W.cell? ⟨w.heap.size, 4, none⟩ = some (.string (txt o.peer)) := fun s => (hB0.out.mod s.ok (fun h => h)).cell_ rfl
    have g5 : ∀ s : Cls (Mod none_ W0), s.W.cell? ⟨w.heap.size, 5, none⟩ = some (.int .i64 o.sum) := fun s => (hB0.out.mod s.ok (fun h => h)).cell_ rfl
    have g6 : ∀ s : Cls (Mod none_ W0), s.W.cell? ⟨w.heap.size, 6, none⟩ = some (.slice L.a L.n L.c) := fun s => (hB0.out.mod s.ok (fun h => h)).cell_ rfl
    have g7 : ∀ s : Cls (Mod none_ W0), s.W.cell? ⟨w.heap.size, 7, none⟩ = some (.int .i64 o.per) := fun s => (hB0.out.mod s.ok (fun h => h)).cell_ rfl
    have g8 : ∀ s : Cls (Mod none_ W0), s.W.cell? ⟨w.heap.size, 8, none⟩ = some (.int .i64 o.hold) := fun s => (hB0.out.mod s.ok (fun h => h)).cell_ rfl
    have g9 : ∀ s : Cls (Mod none_ W0), s.W.cell? ⟨w.heap.size, 9, none⟩ = some (.string (txt o.note)) := fun s => (hB0.out.mod s.ok (fun h => h)).cell_ rfl
    have kb := fun s : Cls (Mod none_ W0) => (rbare_2 s.W o L hk.out b L hb.out rfl).mono (fun e w' (h : _ ∧ _) => (⟨h.1, s.ok.trans h.2⟩ : _ ∧ Mod none_ W0 w'))
    have ks := fun s : Cls (Mod none_ W0) => (same6_ok s.W o b L L (hO.out.mod0 (hm0.out.trans s.ok)) (hOb.out _ (hO.out.mod0 (hm0.out.trans s.ok))) hL hL).mono (fun e w' (h : _ ∧ _) => (⟨h.1, s.ok.trans h.2⟩ : _ ∧ Mod none_ W0 w'))
    rw [hk.out] at kb ks
    replace kb := Lib.hid kb
    rw [decide_eq_false hob.out] at ks
    replace ks := Lib.hid ks
    go_wp2_with fail
    refine wp_region_cls (Mod none_ W0) (by kernel_rfl) (by kernel_rfl) (Mod.refl none_ _).drew ?_
    try simp only [List.append_eq, List.cons_append, List.nil_append]
    repeat (go_big_quiet_step ((first | (go_at_call 80; exact cls_of (kb.out _)) | (go_at_call 49; exact cls_of (ks.out _)))))
    refine wpQuiet_nil ?_
    rintro W1 ⟨⟨_, hW1⟩, rfl⟩
    have hB1 := Lib.hid (hB0.out.mod hW1 (fun h => h))
    replace hW1 := Lib.hid (hm0.out.trans hW1)
    go_wp2_with fail
    go_ret
    exact ⟨rfl, hW1.out⟩
end Go.Proofs.YtdekehhmjehicaaGreat
/-
  The reference's order.Right, whole. No condition.
-/
namespace Go.Proofs.YtdekehhmjehicaaGreat
set_option linter.unusedVariables false
set_option linter.unusedSimpArgs false
open Go.RowKit
theorem r06right_ok (w : World) (o : Od) (L : SV) (hO : OdM w o L) (hL : L.n ≤ 140737488355328) (hz : ∀ l ∈ o.legs, (txt l.n).size ≤ maxLen) (ta : (txt o.acct).size ≤ maxLen) (tp : (txt o.peer).size ≤ maxLen) :
    Calls Tryz.prog 73 #[.agg #[.int .i64 o.c, .int .i64 o.s, .int .i64 o.k, .string (txt o.acct), .string (txt o.peer), .int .i64 o.sum, .slice L.a L.n L.c, .int .i64 o.per, .int .i64 o.hold, .string (txt o.note)]] w fun e w' => e = .returned (.bool (rightO o)) ∧ Mod none_ w w' := by
  unfold rightO kindB idB
  by_cases hi : 0 ≤ o.c ∧ o.c ≤ 9 ∧ 1 ≤ o.s ∧ o.s ≤ 999
  · rw [decide_eq_true hi, Bool.true_and]
    by_cases h1 : o.k = 1
    · rw [if_pos h1]; exact r06_1 w o L hO hL h1 hi ta tp
    rw [if_neg h1]
    by_cases h2 : o.k = 2
    · rw [if_pos h2]; exact r06_2 w o L hO hL h2 hi hz
    rw [if_neg h2]
    by_cases h3 : o.k = 3
    · rw [if_pos h3]; exact r06_3 w o L hO hL h3 hi ta tp
    rw [if_neg h3]
    by_cases h4 : o.k = 4
    · rw [if_pos h4]; exact r06_4 w o L hO hL h4 hi ta tp
    rw [if_neg h4]
    by_cases h5 : o.k = 5
    · rw [if_pos h5]; exact r06_5 w o L hO hL h5 hi ta tp
    rw [if_neg h5]
    by_cases h6 : o.k = 6
    · rw [if_pos h6]; exact r06_6 w o L hO hL h6 hi ta tp
    rw [if_neg h6]
    by_cases h7 : o.k = 7
    · rw [if_pos h7]; exact r06_7 w o L hO hL h7 hi ta tp
    rw [if_neg h7]
    exact r06_no w o L (by omega)
  · rw [decide_eq_false hi, Bool.false_and]
    exact r06_no w o L (by omega)
end Go.Proofs.YtdekehhmjehicaaGreat
/-
  runner.compare, Ahead, right.
-/
namespace Go.Proofs.YtdekehhmjehicaaGreat
set_option linter.unusedVariables false
set_option linter.unusedSimpArgs false
open Go.RowKit
def cmpI (a b : Int) : Int := if a < b then -1 else if b < a then 1 else 0
theorem nan_ok (w : World) (a : Int) : Calls Tryz.prog 103 #[.int .i64 a] w fun e w' => e = .returned (.bool false) ∧ w = w' := by
  go_enter Tryz.func103, Tryz.ntmps103
  go_wp2
  go_ret
  simp
set_option maxRecDepth 100000 in
theorem cmpI_ok (w : World) (a b : Int) : Calls Tryz.prog 101 #[.int .i64 a, .int .i64 b] w fun e w' => e = .returned (.int .i64 (cmpI a b)) ∧ w = w' := by
  rcases (show a < b ∨ b < a ∨ a = b by omega) with h | h | h
  all_goals
    have e1 := decide_eq_true h
    go_enter Tryz.func101, Tryz.ntmps101
    go_wp2_with fail
    with_reducible refine (nan_ok _ _).mono ?_
    rintro e w1 ⟨rfl, rfl⟩
    dsimp only
    go_wp2_with fail
    with_reducible refine (nan_ok _ _).mono ?_
    rintro e w1 ⟨rfl, rfl⟩
    dsimp only
  · have hr : Hid (cmpI a b = -1) := Lib.hid (by unfold cmpI; rw [if_pos h])
    go_wp2_with fail
    go_ret
    exact ⟨by rw [hr.out] <;> rfl, rfl⟩
  · have hr : Hid (cmpI a b = 1) := Lib.hid (by unfold cmpI; rw [if_neg (by omega), if_pos h])
    have e2 : ¬ a < b := by omega
    go_wp2_with fail
    go_ret
    exact ⟨by rw [hr.out] <;> rfl, rfl⟩
  · have hr : Hid (cmpI a b = 0) := Lib.hid (by unfold cmpI; rw [if_neg (by omega), if_neg (by omega)])
    have e2 : ¬ a < b := by omega
    have e3 : ¬ b < a := by omega
    clear h e1
    go_wp2_with fail
    go_ret
    exact ⟨by rw [hr.out] <;> rfl, rfl⟩
theorem rdiN_get {w : World} {A : Option Addr} {n : Nat} {xs : List Int} (h : RdI w A n xs) {j : Nat} (hj : j < n) : ∃ b o, A = some ⟨b, o, none⟩ ∧ ∃ hl : j < xs.length, w.cell? ⟨b, o + j, none⟩ = some (.int .i64 xs[j]) := by
  obtain ⟨b, o, e, hc⟩ := Rd.form h (by omega) (by omega)
  have hl : j < xs.length := by have := h.1; simp [ivs] at this; omega
  exact ⟨b, o, e, hl, hc j _ (by simp [ivs, hl])⟩
set_option maxRecDepth 100000 in
theorem or2_ok (w : World) (b : Nat) (x y : Int) (h : RdI w (some ⟨b, 0, none⟩) 2 [x, y]) : Calls Tryz.prog 100 #[.slice (some ⟨b, 0, none⟩) 2 2] w fun e w' => e = .returned (.int .i64 (if x = 0 then y else x)) ∧ w = w' := by
  obtain ⟨b1, o1, hb1, hl1, h1⟩ := rdiN_get h (j := 0) (by omega)
  obtain ⟨b2, o2, hb2, hl2, h2⟩ := rdiN_get h (j := 1) (by omega)
  cases hb1; cases hb2
  simp only [List.getElem_cons_zero, List.getElem_cons_succ, Nat.zero_add, Nat.add_zero] at h1 h2
  clear h
  by_cases hx : x = 0
  · subst hx
    by_cases hy : y = 0
    · subst hy
      go_enter Tryz.func100, Tryz.ntmps100
      go_wp2_with fail
      go_loopg [8] 2 (fun k v wr => ∃ i : Nat, v = .int .i64 i ∧ i + k = 2 ∧ w = wr)
      case atStart => exact ⟨0, rfl, by omega, rfl⟩
      case round =>
        obtain ⟨i, rfl, hik, rfl⟩ := hrel
        rcases (show i = 0 ∨ i = 1 ∨ i = 2 by omega) with rfl | rfl | rfl
        · go_wp2_with fail
          go_roundg 1
          case measure => omega
          case rel => exact ⟨1, rfl, by omega, rfl⟩
        · go_wp2_with fail
          go_roundg 0
          case measure => omega
          case rel => exact ⟨2, rfl, by omega, rfl⟩
        · go_wp2_with fail
          go_ret
          simp
    · go_enter Tryz.func100, Tryz.ntmps100
      go_wp2_with fail
      go_loopg [8] 2 (fun k v wr => ∃ i : Nat, v = .int .i64 i ∧ i + k = 2 ∧ i ≤ 1 ∧ w = wr)
      case atStart => exact ⟨0, rfl, by omega, by omega, rfl⟩
      case round =>
        obtain ⟨i, rfl, hik, hi1, rfl⟩ := hrel
        rcases (show i = 0 ∨ i = 1 by omega) with rfl | rfl
        · go_wp2_with fail
          go_roundg 1
          case measure => omega
          case rel => exact ⟨1, rfl, by omega, by omega, rfl⟩
        · go_wp2_with fail
          go_ret
          simp
  · go_enter Tryz.func100, Tryz.ntmps100
    go_wp2_with fail
    go_loopg [8] 2 (fun k v wr => v = .int .i64 0 ∧ w = wr)
    case atStart => exact ⟨rfl, rfl⟩
    case round =>
      obtain ⟨rfl, rfl⟩ := hrel
      go_wp2_with fail
      go_ret
      simp [hx]
/-- in which order Insts stand -/
def isLt (a b : Is) : Bool := decide (a.r < b.r ∨ (a.r = b.r ∧ a.n < b.n))
def cmpIs (a b : Is) : Int := if cmpI a.r b.r = 0 then cmpI a.n b.n else cmpI a.r b.r
theorem cmpI_lt {a b : Int} : cmpI a b < 0 ↔ a < b := by
  unfold cmpI
  split
  · omega
  · split <;> omega
theorem cmpI_zero {a b : Int} : cmpI a b = 0 ↔ a = b := by
  unfold cmpI
  split
  · omega
  · split <;> omega
theorem cmpIs_lt (a b : Is) : decide (cmpIs a b < 0) = isLt a b := by
  unfold cmpIs isLt
  rw [decide_eq_decide]
  split <;> rename_i h
  · rw [cmpI_zero] at h
    rw [cmpI_lt]; omega
  · rw [cmpI_zero] at h
    rw [cmpI_lt]; omega
set_option maxRecDepth 100000 in
set_option maxHeartbeats 4000000 in
theorem compare_ok (w : World) (a b : Is) : Calls Tryz.prog 79 #[.agg #[.int .i64 a.r, .int .i64 a.n], .agg #[.int .i64 b.r, .int .i64 b.n]] w fun e w' => e = .returned (.int .i64 (cmpIs a b)) ∧ Mod none_ w w' := by
  obtain ⟨ar, an⟩ := a
  obtain ⟨br, bn⟩ := b
  dsimp only
  have h0 : Mod none_ w (((w.alloc (.cells #[.int .i64 ar, .int .i64 an] 36)).alloc (.cells #[.int .i64 br, .int .i64 bn] 36)).drew) := (((Mod.refl none_ w).alloc _).alloc _).drew
  have kC := Lib.hid (fun W a b => cmpI_ok W a b)
  obtain ⟨z, hz⟩ : ∃ z, cmpIs ⟨ar, an⟩ ⟨br, bn⟩ = z := ⟨_, rfl⟩
  rw [hz]
  have kO := Lib.hid (fun W b h => show Calls Tryz.prog 100 #[.slice (some ⟨b, 0, none⟩) 2 2] W (fun e w' => e = .returned (.int .i64 z) ∧ W = w') from by
    rw [← hz]; exact or2_ok W b (cmpI ar br) (cmpI an bn) h)
  clear hz
  replace h0 := Lib.hid h0
  go_enter Tryz.func79, Tryz.ntmps79
  go_wp2_with fail
  go_region_held3 (fun W => W.cell? ⟨w.heap.size, 0, none⟩ = some (.int .i64 ar) ∧ W.cell? ⟨w.heap.size, 1, none⟩ = some (.int .i64 an) ∧ W.cell? ⟨w.heap.size + 1, 0, none⟩ = some (.int .i64 br) ∧ W.cell? ⟨w.heap.size + 1, 1, none⟩ = some (.int .i64 bn)) (go_keep)
    (first | (go_at_call 101; with_reducible refine (kC.out _ _ _).mono ?_; rintro e w1 ⟨rfl, rfl⟩) | (go_at_call 100; refine (kO.out _ _ (by show RdI _ _ _ _; exact rdn _ _ 1 2 _ _ (0, 0) (by simp) rfl)).mono ?_; rintro e w1 ⟨rfl, rfl⟩))
  go_wp2_with fail
  go_ret
  exact ⟨rfl, ((((Mod.refl none_ w).alloc _).alloc _).alloc _).drew⟩
set_option maxRecDepth 100000 in
theorem ahead_ok (w : World) (a b : Is) : Calls Tryz.prog 69 #[.agg #[.int .i64 a.r, .int .i64 a.n], .agg #[.int .i64 b.r, .int .i64 b.n]] w fun e w' => e = .returned (.bool (isLt a b)) ∧ Mod none_ w w' := by
  have kC := Lib.hid (fun W => compare_ok W a b)
  have hz := cmpIs_lt a b
  generalize cmpIs a b = z at *
  replace hz := Lib.hid hz
  go_enter Tryz.func69, Tryz.ntmps69
  go_wp2_with fail
  with_reducible refine (kC.out _).mono ?_
  rintro e w1 ⟨rfl, hm⟩
  dsimp only
  have hm1 := (((Mod.refl none_ w).alloc _).alloc _).trans hm
  replace hm := Lib.hid hm
  replace hm1 := Lib.hid hm1
  go_wp2_with fail
  go_ret
  exact ⟨by rw [← hz.out] <;> rfl, hm1.out⟩
def rightI (a : Is) : Bool := decide (0 ≤ a.r ∧ a.r ≤ 6 ∧ 1 ≤ a.n ∧ a.n ≤ 10000)
set_option maxRecDepth 100000 in
theorem rightI_ok (w : World) (a : Is) : Calls Tryz.prog 68 #[.agg #[.int .i64 a.r, .int .i64 a.n]] w fun e w' => e = .returned (.bool (rightI a)) ∧ Mod none_ w w' := by
  obtain ⟨ar, an⟩ := a
  have hr : Hid (rightI ⟨ar, an⟩ = decide (0 ≤ ar ∧ ar ≤ 6 ∧ 1 ≤ an ∧ an ≤ 10000)) := Lib.hid rfl
  dsimp only
  go_enter Tryz.func68, Tryz.ntmps68
  go_wp2_with fail
  all_goals
    go_ret
    refine ⟨?_, (Mod.refl none_ w).alloc _⟩
    rw [hr.out]
    first | (simp_all; done) | (simp; omega)
end Go.Proofs.YtdekehhmjehicaaGreat
/-
  runner.Right.
-/
namespace Go.Proofs.YtdekehhmjehicaaGreat
set_option linter.unusedVariables false
set_option linter.unusedSimpArgs false
open Go.RowKit
def goodD (i : Is) (ds : List Is) (j : Nat) : Bool :=
  match ds[j]? with
  | none => true
  | some d => rightI d && !decide (d = i) && (decide (j = 0) || match ds[j - 1]? with | none => true | some p => isLt p d)
def depsB (i : Is) (ds : List Is) : Bool := (List.range ds.length).all (goodD i ds)
def rightE (i : Is) (e : En) : Bool := depsB i e.deps && (rightI i && (if e.none then decide (e.o = od0) else rightO e.o))
theorem depsB_no {i : Is} {ds : List Is} {j : Nat} (hj : j < ds.length) (h : goodD i ds j = false) : depsB i ds = false := by
  unfold depsB
  rw [List.all_eq_false]
  exact ⟨j, List.mem_range.2 hj, by rw [h]; simp⟩
theorem depsB_yes {i : Is} {ds : List Is} (h : ∀ j, j < ds.length → goodD i ds j = true) : depsB i ds = true := by
  unfold depsB
  rw [List.all_eq_true]
  exact fun j hj => h j (List.mem_range.1 hj)
set_option maxRecDepth 100000 in
set_option maxHeartbeats 8000000 in
theorem rightE_ok (w : World) (i : Is) (e : En) (L D : SV) (hE : EnM w e L D) (hL : L.n ≤ 140737488355328) (hDn : D.n ≤ 140737488355328) (hk : (Lit.int .i64 e.o.k).wf = true) (hz : ∀ l ∈ e.o.legs, (txt l.n).size ≤ maxLen) :
    Calls Tryz.prog 59 #[.agg #[.int .i64 i.r, .int .i64 i.n], .agg #[.int .i64 e.o.c, .int .i64 e.o.s, .int .i64 e.o.k, .string (txt e.o.acct), .string (txt e.o.peer), .int .i64 e.o.sum, .slice L.a L.n L.c, .int .i64 e.o.per, .int .i64 e.o.hold, .string (txt e.o.note), .bool e.none, .slice D.a D.n D.c]] w fun e' w' => e' = .returned (.bool (rightE i e)) ∧ Mod none_ w w' := by
  obtain ⟨DA, n, Dc⟩ := D
  dsimp only at hDn ⊢
  have kR := Lib.hid (fun W a => rightI_ok W a)
  have kA := Lib.hid (fun W a b => ahead_ok W a b)
  have hlen := hE.rd.len
  have hrd := hE.rd
  dsimp only at hlen hrd
  have hB1 : Blk ((w.alloc (.cells #[.int .i64 i.r, .int .i64 i.n] 36)).alloc (.cells #[.int .i64 e.o.c, .int .i64 e.o.s, .int .i64 e.o.k, .string (txt e.o.acct), .string (txt e.o.peer), .int .i64 e.o.sum, .slice L.a L.n L.c, .int .i64 e.o.per, .int .i64 e.o.hold, .string (txt e.o.note), .bool e.none, .slice DA n Dc] 44)) w.heap.size 36 #[.int .i64 i.r, .int .i64 i.n] := (Blk.new w _ _).alloc _
  have hB2 : Blk ((w.alloc (.cells #[.int .i64 i.r, .int .i64 i.n] 36)).alloc (.cells #[.int .i64 e.o.c, .int .i64 e.o.s, .int .i64 e.o.k, .string (txt e.o.acct), .string (txt e.o.peer), .int .i64 e.o.sum, .slice L.a L.n L.c, .int .i64 e.o.per, .int .i64 e.o.hold, .string (txt e.o.note), .bool e.none, .slice DA n Dc] 44)) (w.heap.size + 1) 44 #[.int .i64 e.o.c, .int .i64 e.o.s, .int .i64 e.o.k, .string (txt e.o.acct), .string (txt e.o.peer), .int .i64 e.o.sum, .slice L.a L.n L.c, .int .i64 e.o.per, .int .i64 e.o.hold, .string (txt e.o.note), .bool e.none, .slice DA n Dc] := heap_alloc2_new w _ _
  have hm0 := ((Mod.refl none_ w).alloc (.cells #[.int .i64 i.r, .int .i64 i.n] 36)).alloc (.cells #[.int .i64 e.o.c, .int .i64 e.o.s, .int .i64 e.o.k, .string (txt e.o.acct), .string (txt e.o.peer), .int .i64 e.o.sum, .slice L.a L.n L.c, .int .i64 e.o.per, .int .i64 e.o.hold, .string (txt e.o.note), .bool e.none, .slice DA n Dc] 44)
  obtain ⟨wB, hwB⟩ : ∃ wB, (w.alloc (.cells #[.int .i64 i.r, .int .i64 i.n] 36)).alloc (.cells #[.int .i64 e.o.c, .int .i64 e.o.s, .int .i64 e.o.k, .string (txt e.o.acct), .string (txt e.o.peer), .int .i64 e.o.sum, .slice L.a L.n L.c, .int .i64 e.o.per, .int .i64 e.o.hold, .string (txt e.o.note), .bool e.none, .slice DA n Dc] 44) = wB := ⟨_, rfl⟩
  rw [hwB] at hB1 hB2 hm0
  replace hE := Lib.hid hE
  replace hB1 := Lib.hid hB1
  replace hB2 := Lib.hid hB2
  replace hm0 := Lib.hid hm0
  replace hlen := Lib.hid hlen
  replace hk := Lib.hid hk
  replace hz := Lib.hid hz
  replace hwB := Lib.hid hwB
  replace hrd := Lib.hid hrd
  go_enter Tryz.func59, Tryz.ntmps59
  go_wp2_with fail
  rw [hwB.out]
  go_loopg [10] n (fun k x wr => ∃ j : Nat, x = .int .i64 j ∧ j + k = n ∧ (∀ j', j' < j → goodD i e.deps j' = true) ∧ Mod none_ wB wr)
  case atStart => exact ⟨0, rfl, by omega, fun j' h => absurd h (Nat.not_lt_zero _), Mod.refl _ _⟩
  case round =>
    obtain ⟨j, rfl, hj, hg, hmr⟩ := hrel
    by_cases hlt : j < n
    · obtain ⟨b, o, d, rfl, hmem, hdj, y1, y2⟩ := rdp_get (hrd.out.mod0 (hm0.out.trans hmr)) hlt
      obtain ⟨dr, dn⟩ := d
      dsimp only at y1 y2
      have hjl : j < e.deps.length := by rw [hlen.out]; exact hlt
      have hwA := hmr.alloc (.cells #[.int .i64 dr, .int .i64 dn] 36)
      have hI := Blk.new wr 36 #[.int .i64 dr, .int .i64 dn]
      have b1 := (hB1.out.mod hmr (fun h => h)).alloc (.cells #[.int .i64 dr, .int .i64 dn] 36)
      have b2 := (hB2.out.mod hmr (fun h => h)).alloc (.cells #[.int .i64 dr, .int .i64 dn] 36)
      have rd1 := (hrd.out.mod0 (hm0.out.trans hmr)).mod0 ((Mod.refl none_ wr).alloc (.cells #[.int .i64 dr, .int .i64 dn] 36))
      have hne : Nonempty (Cls (Mod none_ (wr.alloc (.cells #[.int .i64 dr, .int .i64 dn] 36)))) := ⟨⟨_, Mod.refl _ _⟩⟩
      have g0 : ∀ s : Cls (Mod none_ (wr.alloc (.cells #[.int .i64 dr, .int .i64 dn] 36))), s.W.cell? ⟨wr.heap.size, 0, none⟩ = some (.int .i64 dr) := fun s => (hI.mod s.ok (fun h => h)).cell_ rfl
      have g1 : ∀ s : Cls (Mod none_ (wr.alloc (.cells #[.int .i64 dr, .int .i64 dn] 36))), s.W.cell? ⟨wr.heap.size, 1, none⟩ = some (.int .i64 dn) := fun s => (hI.mod s.ok (fun h => h)).cell_ rfl
      have g2 : ∀ s : Cls (Mod none_ (wr.alloc (.cells #[.int .i64 dr, .int .i64 dn] 36))), s.W.cell? ⟨w.heap.size, 0, none⟩ = some (.int .i64 i.r) := fun s => (b1.mod s.ok (fun h => h)).cell_ rfl
      have g3 : ∀ s : Cls (Mod none_ (wr.alloc (.cells #[.int .i64 dr, .int .i64 dn] 36))), s.W.cell? ⟨w.heap.size, 1, none⟩ = some (.int .i64 i.n) := fun s => (b1.mod s.ok (fun h => h)).cell_ rfl
      have g4 : ∀ s : Cls (Mod none_ (wr.alloc (.cells #[.int .i64 dr, .int .i64 dn] 36))), s.W.cell? ⟨w.heap.size + 1, 11, none⟩ = some (.slice (some ⟨b, o, none⟩) n Dc) := fun s => (b2.mod s.ok (fun h => h)).cell_ rfl
      have kc := Lib.hid (fun s : Cls (Mod none_ (wr.alloc (.cells #[.int .i64 dr, .int .i64 dn] 36))) => (kR.out s.W ⟨dr, dn⟩).mono (fun e w' (h : _ ∧ _) => (⟨h.1, s.ok.trans h.2⟩ : _ ∧ Mod none_ (wr.alloc (.cells #[.int .i64 dr, .int .i64 dn] 36)) w')))
      have hei := fun W => eql_is W ⟨dr, dn⟩ i
      unfold isV at hei
      dsimp only at hei
      have hgj : goodD i e.deps j = (rightI ⟨dr, dn⟩ && !decide ((⟨dr, dn⟩ : Is) = i) && (decide (j = 0) || match e.deps[j - 1]? with | none => true | some p => isLt p ⟨dr, dn⟩)) := by unfold goodD; rw [hdj]
      have hnx : goodD i e.deps j = true → ∀ j', j' < j + 1 → goodD i e.deps j' = true := fun h j' hj' => by
        by_cases e1 : j' = j
        · subst e1; exact h
        · exact hg j' (by omega)
      replace hI := Lib.hid hI
      replace b1 := Lib.hid b1
      replace b2 := Lib.hid b2
      cases hr : rightI ⟨dr, dn⟩ with
      | false =>
        rw [hr] at kc
        have hno := depsB_no hjl (by rw [hgj, hr] <;> rfl)
        have ka := kc
        clear hgj hnx
        replace rd1 := Lib.hid rd1
        replace hr := Lib.hid hr
        replace hno := Lib.hid hno
        replace hwA := Lib.hid hwA
        replace hg := Lib.hid hg
        replace hmr := Lib.hid hmr
        replace hdj := Lib.hid hdj
        go_wp2_with fail
        refine wp_region_cls (Mod none_ (wr.alloc (.cells #[.int .i64 dr, .int .i64 dn] 36))) (by kernel_rfl) (by kernel_rfl) (Mod.refl none_ _).drew ?_
        repeat (go_big_quiet_step (first | (go_at_call 68; exact cls_of (kc.out _)) | (go_at_call 69; exact cls_of (ka.out _))))
        refine wpQuiet_nil ?_
        rintro _ ⟨⟨W, hW⟩, rfl⟩
        replace hW := Lib.hid (hm0.out.trans (hwA.out.trans hW))
        go_wp2_with fail
        go_ret
        refine ⟨?_, hW.out⟩
        rw [show rightE i e = false by unfold rightE; rw [hno.out] <;> rfl]; rfl
      | true =>
        rw [hr] at kc
        by_cases hdi : (⟨dr, dn⟩ : Is) = i
        · rw [decide_eq_true hdi] at hei
          have hno := depsB_no hjl (by rw [hgj, hr, decide_eq_true hdi] <;> rfl)
          have ka := kc
          clear hgj hnx
          replace rd1 := Lib.hid rd1
          replace hr := Lib.hid hr
          replace hdi := Lib.hid hdi
          replace hno := Lib.hid hno
          replace hwA := Lib.hid hwA
          replace hg := Lib.hid hg
          replace hmr := Lib.hid hmr
          replace hdj := Lib.hid hdj
          go_wp2_with fail
          refine wp_region_cls (Mod none_ (wr.alloc (.cells #[.int .i64 dr, .int .i64 dn] 36))) (by kernel_rfl) (by kernel_rfl) (Mod.refl none_ _).drew ?_
          repeat (go_big_quiet_step (first | (go_at_call 68; exact cls_of (kc.out _)) | (go_at_call 69; exact cls_of (ka.out _))))
          refine wpQuiet_nil ?_
          rintro _ ⟨⟨W, hW⟩, rfl⟩
          replace hW := Lib.hid (hm0.out.trans (hwA.out.trans hW))
          go_wp2_with fail
          go_ret
          refine ⟨?_, hW.out⟩
          rw [show rightE i e = false by unfold rightE; rw [hno.out] <;> rfl]; rfl
        · rw [decide_eq_false hdi] at hei
          by_cases hj0 : j = 0
          · have hyes := hnx (by rw [hgj, hr, decide_eq_false hdi, decide_eq_true hj0] <;> rfl)
            have ka := kc
            clear hgj hnx
            replace rd1 := Lib.hid rd1
            replace hr := Lib.hid hr
            replace hdi := Lib.hid hdi
            subst hj0
            simp only [Nat.zero_mul, Nat.add_zero] at y1 y2
            replace hyes := Lib.hid hyes
            replace hwA := Lib.hid hwA
            replace hg := Lib.hid hg
            replace hmr := Lib.hid hmr
            replace hdj := Lib.hid hdj
            go_wp2_with fail
            refine wp_region_cls (Mod none_ (wr.alloc (.cells #[.int .i64 dr, .int .i64 dn] 36))) (by kernel_rfl) (by kernel_rfl) (Mod.refl none_ _).drew ?_
            repeat (go_big_quiet_step (first | (go_at_call 68; exact cls_of (kc.out _)) | (go_at_call 69; exact cls_of (ka.out _))))
            refine wpQuiet_nil ?_
            rintro _ ⟨⟨W, hW⟩, rfl⟩
            replace hW := Lib.hid (hwA.out.trans hW)
            go_wp2_with fail
            go_roundg (gk - 1)
            case measure => omega
            case rel => exact ⟨0 + 1, by go_num, by omega, hyes.out, hW.out⟩
          · obtain ⟨j1, rfl⟩ : ∃ j1, j = j1 + 1 := ⟨j - 1, by omega⟩
            obtain ⟨b', o', p, hbo, hmp, hdp, z1, z2⟩ := rdp_get rd1 (j := j1) (by omega)
            cases hbo
            obtain ⟨pr, pn⟩ := p
            dsimp only at z1 z2
            have g5 : ∀ s : Cls (Mod none_ (wr.alloc (.cells #[.int .i64 dr, .int .i64 dn] 36))), s.W.cell? ⟨b, o + j1*2, none⟩ = some (.int .i64 pr) := fun s => s.ok.cell_some z1 (fun h => h)
            have g6 : ∀ s : Cls (Mod none_ (wr.alloc (.cells #[.int .i64 dr, .int .i64 dn] 36))), s.W.cell? ⟨b, o + j1*2 + 1, none⟩ = some (.int .i64 pn) := fun s => s.ok.cell_some z2 (fun h => h)
            clear z1 z2
            have ka := Lib.hid (fun s : Cls (Mod none_ (wr.alloc (.cells #[.int .i64 dr, .int .i64 dn] 36))) => (kA.out s.W ⟨pr, pn⟩ ⟨dr, dn⟩).mono (fun e w' (h : _ ∧ _) => (⟨h.1, s.ok.trans h.2⟩ : _ ∧ Mod none_ (wr.alloc (.cells #[.int .i64 dr, .int .i64 dn] 36)) w')))
            rw [show j1 + 1 - 1 = j1 from rfl, hdp] at hgj
            dsimp only at hgj
            have hw1 : wrap64 (((j1 + 1 : Nat) : Int) - 1) = (j1 : Int) := by unfold wrap64; omega
            have hw2 : IntKind.i64.wrap (((j1 + 1 : Nat) : Int) - 1) = (j1 : Int) := by rw [IntKind.wrap_i64]; omega
            have hw3 : ((j1 : Int) + 1 - 1) = (j1 : Int) := by omega
            have hu1 : (0 : Int) ≤ (j1 : Int) := by omega
            have hu2 : (j1 : Int) < (n : Int) := by omega
            cases hlt2 : isLt ⟨pr, pn⟩ ⟨dr, dn⟩ with
            | false =>
              rw [hlt2] at ka
              have hno := depsB_no hjl (by rw [hgj, hr, decide_eq_false hdi, hlt2] <;> rfl)
              clear hgj hnx
              replace rd1 := Lib.hid rd1
              replace hr := Lib.hid hr
              replace hdi := Lib.hid hdi
              replace hdp := Lib.hid hdp
              replace hmp := Lib.hid hmp
              replace hlt2 := Lib.hid hlt2
              replace hno := Lib.hid hno
              replace hwA := Lib.hid hwA
              replace hg := Lib.hid hg
              replace hmr := Lib.hid hmr
              replace hdj := Lib.hid hdj
              go_wp2_with fail
              refine wp_region_cls (Mod none_ (wr.alloc (.cells #[.int .i64 dr, .int .i64 dn] 36))) (by kernel_rfl) (by kernel_rfl) (Mod.refl none_ _).drew ?_
              repeat (go_big_quiet_step (first | (go_at_call 68; exact cls_of (kc.out _)) | (go_at_call 69; exact cls_of (ka.out _))))
              refine wpQuiet_nil ?_
              rintro _ ⟨⟨W, hW⟩, rfl⟩
              replace hW := Lib.hid (hm0.out.trans (hwA.out.trans hW))
              go_wp2_with fail
              go_ret
              refine ⟨?_, hW.out⟩
              rw [show rightE i e = false by unfold rightE; rw [hno.out] <;> rfl]; rfl
            | true =>
              rw [hlt2] at ka
              have hyes := hnx (by rw [hgj, hr, decide_eq_false hdi, hlt2]; simp)
              clear hgj hnx
              replace rd1 := Lib.hid rd1
              replace hr := Lib.hid hr
              replace hdi := Lib.hid hdi
              replace hdp := Lib.hid hdp
              replace hmp := Lib.hid hmp
              replace hlt2 := Lib.hid hlt2
              replace hyes := Lib.hid hyes
              replace hwA := Lib.hid hwA
              replace hg := Lib.hid hg
              replace hmr := Lib.hid hmr
              replace hdj := Lib.hid hdj
              go_wp2_with fail
              refine wp_region_cls (Mod none_ (wr.alloc (.cells #[.int .i64 dr, .int .i64 dn] 36))) (by kernel_rfl) (by kernel_rfl) (Mod.refl none_ _).drew ?_
              repeat (go_big_quiet_step (first | (go_at_call 68; exact cls_of (kc.out _)) | (go_at_call 69; exact cls_of (ka.out _))))
              refine wpQuiet_nil ?_
              rintro _ ⟨⟨W, hW⟩, rfl⟩
              replace hW := Lib.hid (hwA.out.trans hW)
              go_wp2_with fail
              go_roundg (gk - 1)
              case measure => omega
              case rel => exact ⟨j1 + 1 + 1, by go_num, by omega, hyes.out, hW.out⟩
    · obtain rfl : j = n := by omega
      have hdp : depsB i e.deps = true := depsB_yes fun j' h => hg j' (by rw [hlen.out] at h; exact h)
      have hB3 := hB1.out.mod hmr (fun h => h)
      have hB4 := hB2.out.mod hmr (fun h => h)
      have hm1 := hm0.out.trans hmr
      have p0 : wr.cell? ⟨w.heap.size, 0, none⟩ = some (.int .i64 i.r) := hB3.cell_ rfl
      have p1 : wr.cell? ⟨w.heap.size, 1, none⟩ = some (.int .i64 i.n) := hB3.cell_ rfl
      have q10 : wr.cell? ⟨w.heap.size + 1, 10, none⟩ = some (.bool e.none) := hB4.cell_ rfl
      have kI := Lib.hid (kR.out wr i)
      have hre : rightE i e = (rightI i && (if e.none then decide (e.o = od0) else rightO e.o)) := by unfold rightE; rw [hdp] <;> rfl
      cases hnn : e.none with
      | true =>
        rw [hnn] at q10 hre
        rw [if_pos rfl] at hre
        have kS := Lib.hid (fun W (h : Mod none_ w W) => sameO_ok W e.o od0 L ⟨none, 0, 0⟩ (hE.out.od.mod0 h) (od0_mem W) hL (by decide))
        replace hg := Lib.hid hg
        replace hmr := Lib.hid hmr
        replace hdp := Lib.hid hdp
        replace hB3 := Lib.hid hB3
        replace hB4 := Lib.hid hB4
        replace hm1 := Lib.hid hm1
        replace hnn := Lib.hid hnn
        replace hre := Lib.hid hre
        go_wp2_with fail
        with_reducible refine kI.out.mono ?_
        rintro e' w2 ⟨rfl, hm2⟩
        dsimp only
        have hB5 := hB4.out.mod hm2 (fun h => h)
        have d0 : w2.cell? ⟨w.heap.size + 1, 0, none⟩ = some (.int .i64 e.o.c) := hB5.cell_ rfl
        have d1 : w2.cell? ⟨w.heap.size + 1, 1, none⟩ = some (.int .i64 e.o.s) := hB5.cell_ rfl
        have d2 : w2.cell? ⟨w.heap.size + 1, 2, none⟩ = some (.int .i64 e.o.k) := hB5.cell_ rfl
        have d3 : w2.cell? ⟨w.heap.size + 1, 3, none⟩ = some (.string (txt e.o.acct)) := hB5.cell_ rfl
        have d4 : w2.cell? ⟨w.heap.size + 1, 4, none⟩ = some (.string (txt e.o.peer)) := hB5.cell_ rfl
        have d5 : w2.cell? ⟨w.heap.size + 1, 5, none⟩ = some (.int .i64 e.o.sum) := hB5.cell_ rfl
        have d6 : w2.cell? ⟨w.heap.size + 1, 6, none⟩ = some (.slice L.a L.n L.c) := hB5.cell_ rfl
        have d7 : w2.cell? ⟨w.heap.size + 1, 7, none⟩ = some (.int .i64 e.o.per) := hB5.cell_ rfl
        have d8 : w2.cell? ⟨w.heap.size + 1, 8, none⟩ = some (.int .i64 e.o.hold) := hB5.cell_ rfl
        have d9 : w2.cell? ⟨w.heap.size + 1, 9, none⟩ = some (.string (txt e.o.note)) := hB5.cell_ rfl
        have hm3 := Lib.hid (hm1.out.trans hm2)
        have kS2 := Lib.hid (kS.out w2 hm3.out)
        clear hm2
        replace hB5 := Lib.hid hB5
        cases hri : rightI i with
        | false =>
          have hre := Lib.hid (hre.out.trans (by rw [hri]))
          replace hri := Lib.hid hri
          go_wp2_with fail
          go_ret
          exact ⟨by rw [hre.out] <;> rfl, hm3.out⟩
        | true =>
          have hre := Lib.hid (hre.out.trans (by rw [hri]))
          replace hri := Lib.hid hri
          go_wp2_with fail
          refine kS2.out.mono ?_
          rintro e' w3 ⟨rfl, hm4⟩
          dsimp only
          have hm5 := Lib.hid (hm3.out.trans hm4)
          replace hm4 := Lib.hid hm4
          go_wp2_with fail
          go_ret
          exact ⟨by rw [hre.out] <;> rfl, hm5.out⟩
      | false =>
        rw [hnn] at q10 hre
        rw [if_neg (by simp)] at hre
        have kS := Lib.hid (fun W (h : Mod none_ w W) => rightO_ok W e.o L (hE.out.od.mod0 h) hL hk.out hz.out)
        replace hg := Lib.hid hg
        replace hmr := Lib.hid hmr
        replace hdp := Lib.hid hdp
        replace hB3 := Lib.hid hB3
        replace hB4 := Lib.hid hB4
        replace hm1 := Lib.hid hm1
        replace hnn := Lib.hid hnn
        replace hre := Lib.hid hre
        go_wp2_with fail
        with_reducible refine kI.out.mono ?_
        rintro e' w2 ⟨rfl, hm2⟩
        dsimp only
        have hB5 := hB4.out.mod hm2 (fun h => h)
        have d0 : w2.cell? ⟨w.heap.size + 1, 0, none⟩ = some (.int .i64 e.o.c) := hB5.cell_ rfl
        have d1 : w2.cell? ⟨w.heap.size + 1, 1, none⟩ = some (.int .i64 e.o.s) := hB5.cell_ rfl
        have d2 : w2.cell? ⟨w.heap.size + 1, 2, none⟩ = some (.int .i64 e.o.k) := hB5.cell_ rfl
        have d3 : w2.cell? ⟨w.heap.size + 1, 3, none⟩ = some (.string (txt e.o.acct)) := hB5.cell_ rfl
        have d4 : w2.cell? ⟨w.heap.size + 1, 4, none⟩ = some (.string (txt e.o.peer)) := hB5.cell_ rfl
        have d5 : w2.cell? ⟨w.heap.size + 1, 5, none⟩ = some (.int .i64 e.o.sum) := hB5.cell_ rfl
        have d6 : w2.cell? ⟨w.heap.size + 1, 6, none⟩ = some (.slice L.a L.n L.c) := hB5.cell_ rfl
        have d7 : w2.cell? ⟨w.heap.size + 1, 7, none⟩ = some (.int .i64 e.o.per) := hB5.cell_ rfl
        have d8 : w2.cell? ⟨w.heap.size + 1, 8, none⟩ = some (.int .i64 e.o.hold) := hB5.cell_ rfl
        have d9 : w2.cell? ⟨w.heap.size + 1, 9, none⟩ = some (.string (txt e.o.note)) := hB5.cell_ rfl
        have hm3 := Lib.hid (hm1.out.trans hm2)
        have kS2 := Lib.hid (kS.out w2 hm3.out)
        clear hm2
        replace hB5 := Lib.hid hB5
        cases hri : rightI i with
        | false =>
          have hre := Lib.hid (hre.out.trans (by rw [hri]))
          replace hri := Lib.hid hri
          go_wp2_with fail
          go_ret
          exact ⟨by rw [hre.out] <;> rfl, hm3.out⟩
        | true =>
          have hre := Lib.hid (hre.out.trans (by rw [hri]))
          replace hri := Lib.hid hri
          go_wp2_with fail
          with_reducible refine kS2.out.mono ?_
          rintro e' w3 ⟨rfl, hm4⟩
          dsimp only
          have hm5 := Lib.hid (hm3.out.trans hm4)
          replace hm4 := Lib.hid hm4
          go_wp2_with fail
          go_ret
          exact ⟨by rw [hre.out] <;> rfl, hm5.out⟩
end Go.Proofs.YtdekehhmjehicaaGreat
/-
  The reference's Same of entries, in general; its Ahead, its word for an Inst. No condition.
-/
namespace Go.Proofs.YtdekehhmjehicaaGreat
set_option linter.unusedVariables false
set_option linter.unusedSimpArgs false
open Go.RowKit
set_option maxRecDepth 100000 in
set_option maxHeartbeats 8000000 in
theorem same14_ok (w : World) (a b : En) (L D M E : SV) (ha : EnM w a L D) (hb : EnM w b M E) (hL : L.n ≤ 140737488355328) (hD : D.n ≤ 140737488355328) (hM : M.n ≤ 140737488355328) :
    Calls Tryz.prog 31 #[.agg #[.int .i64 a.o.c, .int .i64 a.o.s, .int .i64 a.o.k, .string (txt a.o.acct), .string (txt a.o.peer), .int .i64 a.o.sum, .slice L.a L.n L.c, .int .i64 a.o.per, .int .i64 a.o.hold, .string (txt a.o.note), .bool a.none, .slice D.a D.n D.c], .agg #[.int .i64 b.o.c, .int .i64 b.o.s, .int .i64 b.o.k, .string (txt b.o.acct), .string (txt b.o.peer), .int .i64 b.o.sum, .slice M.a M.n M.c, .int .i64 b.o.per, .int .i64 b.o.hold, .string (txt b.o.note), .bool b.none, .slice E.a E.n E.c]] w fun e w' => e = .returned (.bool (decide (a = b))) ∧ Mod none_ w w' := by
  have k6 := Lib.hid (fun W (h : Mod none_ w W) => same6_ok W a.o b.o L M (ha.od.mod0 h) (hb.od.mod0 h) hL hM)
  have hm0 := ((Mod.refl none_ w).alloc (.cells #[.int .i64 a.o.c, .int .i64 a.o.s, .int .i64 a.o.k, .string (txt a.o.acct), .string (txt a.o.peer), .int .i64 a.o.sum, .slice L.a L.n L.c, .int .i64 a.o.per, .int .i64 a.o.hold, .string (txt a.o.note), .bool a.none, .slice D.a D.n D.c] 44)).alloc (.cells #[.int .i64 b.o.c, .int .i64 b.o.s, .int .i64 b.o.k, .string (txt b.o.acct), .string (txt b.o.peer), .int .i64 b.o.sum, .slice M.a M.n M.c, .int .i64 b.o.per, .int .i64 b.o.hold, .string (txt b.o.note), .bool b.none, .slice E.a E.n E.c] 44)
  have hb1 := (Blk.new w 44 #[.int .i64 a.o.c, .int .i64 a.o.s, .int .i64 a.o.k, .string (txt a.o.acct), .string (txt a.o.peer), .int .i64 a.o.sum, .slice L.a L.n L.c, .int .i64 a.o.per, .int .i64 a.o.hold, .string (txt a.o.note), .bool a.none, .slice D.a D.n D.c]).alloc (.cells #[.int .i64 b.o.c, .int .i64 b.o.s, .int .i64 b.o.k, .string (txt b.o.acct), .string (txt b.o.peer), .int .i64 b.o.sum, .slice M.a M.n M.c, .int .i64 b.o.per, .int .i64 b.o.hold, .string (txt b.o.note), .bool b.none, .slice E.a E.n E.c] 44)
  have hb2 := Blk.new (w.alloc (.cells #[.int .i64 a.o.c, .int .i64 a.o.s, .int .i64 a.o.k, .string (txt a.o.acct), .string (txt a.o.peer), .int .i64 a.o.sum, .slice L.a L.n L.c, .int .i64 a.o.per, .int .i64 a.o.hold, .string (txt a.o.note), .bool a.none, .slice D.a D.n D.c] 44)) 44 #[.int .i64 b.o.c, .int .i64 b.o.s, .int .i64 b.o.k, .string (txt b.o.acct), .string (txt b.o.peer), .int .i64 b.o.sum, .slice M.a M.n M.c, .int .i64 b.o.per, .int .i64 b.o.hold, .string (txt b.o.note), .bool b.none, .slice E.a E.n E.c]
  have hsz : (w.alloc (.cells #[.int .i64 a.o.c, .int .i64 a.o.s, .int .i64 a.o.k, .string (txt a.o.acct), .string (txt a.o.peer), .int .i64 a.o.sum, .slice L.a L.n L.c, .int .i64 a.o.per, .int .i64 a.o.hold, .string (txt a.o.note), .bool a.none, .slice D.a D.n D.c] 44)).heap.size = w.heap.size + 1 := by simp
  rw [hsz] at hb2
  clear hsz
  have hRa := Lib.hid ha.rd
  have hRb := Lib.hid hb.rd
  have hal := Lib.hid ha.rd.len
  have hbl := Lib.hid hb.rd.len
  have he := @en_eq a b
  clear ha hb
  obtain ⟨res, hres⟩ : ∃ res, decide (a = b) = res := ⟨_, rfl⟩
  rw [hres]
  replace hm0 := Lib.hid hm0
  replace hb1 := Lib.hid hb1
  replace hb2 := Lib.hid hb2
  replace he := Lib.hid he
  by_cases h1 : a.o = b.o
  case neg =>
    rw [decide_eq_false h1] at k6
    obtain rfl : res = false := by rw [← hres]; exact decide_eq_false (fun h => h1 (he.out.1 h).2.1)
    replace h1 := Lib.hid h1
    replace hres := Lib.hid hres
    go_enter Tryz.func31, Tryz.ntmps31
    go_wp2_with fail
    with_reducible refine (k6.out _ hm0.out).mono ?_
    rintro e W0 ⟨rfl, hm1⟩
    dsimp only
    have hM1 := Lib.hid (hm0.out.trans hm1)
    clear hm1
    go_wp2_with fail
    go_ret
    exact ⟨rfl, hM1.out⟩
  case pos =>
  rw [decide_eq_true h1] at k6
  by_cases h2 : a.none = b.none
  case neg =>
    have hz2 : (a.none != b.none) = true := by simpa using h2
    obtain rfl : res = false := by rw [← hres]; exact decide_eq_false (fun h => h2 (he.out.1 h).1)
    replace h1 := Lib.hid h1
    replace h2 := Lib.hid h2
    replace hres := Lib.hid hres
    go_enter Tryz.func31, Tryz.ntmps31
    go_wp2_with fail
    with_reducible refine (k6.out _ hm0.out).mono ?_
    rintro e W0 ⟨rfl, hm1⟩
    dsimp only
    have hM1 := Lib.hid (hm0.out.trans hm1)
    have hB1 := Lib.hid (hb1.out.mod hm1 (fun h => h))
    have hB2 := Lib.hid (hb2.out.mod hm1 (fun h => h))
    have i1 : W0.cell? ⟨w.heap.size, 10, none⟩ = some (.bool a.none) := hB1.out.cell_ rfl
    have i2 : W0.cell? ⟨w.heap.size + 1, 10, none⟩ = some (.bool b.none) := hB2.out.cell_ rfl
    clear hm1
    go_wp2_with fail
    go_ret
    exact ⟨rfl, hM1.out⟩
  case pos =>
  have hz2 : (a.none != b.none) = false := by simpa using h2
  by_cases h3 : D.n = E.n
  case neg =>
    have hz : ((D.n : Int) != (E.n : Int)) = true := by simp; omega
    obtain rfl : res = false := by rw [← hres]; exact decide_eq_false (fun h => h3 (by rw [← hal.out, ← hbl.out, h]))
    replace h1 := Lib.hid h1
    replace h2 := Lib.hid h2
    replace h3 := Lib.hid h3
    replace hres := Lib.hid hres
    go_enter Tryz.func31, Tryz.ntmps31
    go_wp2_with fail
    with_reducible refine (k6.out _ hm0.out).mono ?_
    rintro e W0 ⟨rfl, hm1⟩
    dsimp only
    have hM1 := Lib.hid (hm0.out.trans hm1)
    have hB1 := Lib.hid (hb1.out.mod hm1 (fun h => h))
    have hB2 := Lib.hid (hb2.out.mod hm1 (fun h => h))
    have i1 : W0.cell? ⟨w.heap.size, 10, none⟩ = some (.bool a.none) := hB1.out.cell_ rfl
    have i2 : W0.cell? ⟨w.heap.size + 1, 10, none⟩ = some (.bool b.none) := hB2.out.cell_ rfl
    have i3 : W0.cell? ⟨w.heap.size, 11, none⟩ = some (.slice D.a D.n D.c) := hB1.out.cell_ rfl
    have i4 : W0.cell? ⟨w.heap.size + 1, 11, none⟩ = some (.slice E.a E.n E.c) := hB2.out.cell_ rfl
    clear hm1
    go_wp2_with fail
    go_ret
    exact ⟨rfl, hM1.out⟩
  case pos =>
  have hz : ((D.n : Int) != (E.n : Int)) = false := by simp [h3]
  replace h1 := Lib.hid h1
  replace h2 := Lib.hid h2
  replace h3 := Lib.hid h3
  go_enter Tryz.func31, Tryz.ntmps31
  go_wp2_with fail
  with_reducible refine (k6.out _ hm0.out).mono ?_
  rintro e W0 ⟨rfl, hm1⟩
  dsimp only
  have hM1 := Lib.hid (hm0.out.trans hm1)
  have hB1 := Lib.hid (hb1.out.mod hm1 (fun h => h))
  have hB2 := Lib.hid (hb2.out.mod hm1 (fun h => h))
  have i1 : W0.cell? ⟨w.heap.size, 10, none⟩ = some (.bool a.none) := hB1.out.cell_ rfl
  have i2 : W0.cell? ⟨w.heap.size + 1, 10, none⟩ = some (.bool b.none) := hB2.out.cell_ rfl
  have i3 : W0.cell? ⟨w.heap.size, 11, none⟩ = some (.slice D.a D.n D.c) := hB1.out.cell_ rfl
  have i4 : W0.cell? ⟨w.heap.size + 1, 11, none⟩ = some (.slice E.a E.n E.c) := hB2.out.cell_ rfl
  clear hm1 hb1 hb2 hm0 k6
  go_wp2_with fail
  clear i1 i2 i3 i4
  go_loopg [5] D.n (fun k x wr => ∃ j : Nat, x = .int .i64 j ∧ j + k = D.n ∧ (∀ i, i < j → a.deps[i]? = b.deps[i]?) ∧ ∃ q, wr = W0.drewN q)
  case atStart => exact ⟨0, rfl, by omega, fun i h => absurd h (Nat.not_lt_zero _), 0, rfl⟩
  case round =>
    obtain ⟨j, rfl, hj, hall, q, hq⟩ := hrel
    have c1 : wr.cell? ⟨w.heap.size, 11, none⟩ = some (.slice D.a D.n D.c) := by rw [hq]; exact (hB1.out.drewN q).cell_ rfl
    have c2 : wr.cell? ⟨w.heap.size + 1, 11, none⟩ = some (.slice E.a E.n E.c) := by rw [hq]; exact (hB2.out.drewN q).cell_ rfl
    by_cases hlt : j < D.n
    · have hmq := hM1.out.drewN q
      have hltM : j < E.n := by have := h3.out; omega
      obtain ⟨b1, o1, x, e1, -, hx0, a1, a2⟩ := rdp_get (w := W0.drewN q) (Rd.mod0 hRa.out hmq) hlt
      obtain ⟨b2, o2, y, e2, -, hy0, y1, y2⟩ := rdp_get (w := W0.drewN q) (Rd.mod0 hRb.out hmq) hltM
      rw [← hq] at a1 a2 y1 y2
      rw [e1] at c1
      rw [e2] at c2
      have hne := fun W => neq_is W x y
      unfold isV at hne
      have hend := Lib.hid (show Mod none_ w wr by rw [hq]; exact hmq)
      by_cases hxy : x = y
      · have hn : ∀ i, i < j + 1 → a.deps[i]? = b.deps[i]? := fun i hi => by
          by_cases e : i = j
          · rw [e, hx0, hy0, hxy]
          · exact hall i (by omega)
        simp only [hxy, decide_true, Bool.not_true] at hne a1 a2
        clear hall hmq
        replace hq := Lib.hid hq
        replace hn := Lib.hid hn
        replace e1 := Lib.hid e1
        replace e2 := Lib.hid e2
        replace hxy := Lib.hid hxy
        replace hx0 := Lib.hid hx0
        replace hy0 := Lib.hid hy0
        go_wp2_with (go_quiet (fail))
        go_roundg (gk - 1)
        case measure => omega
        case rel => exact ⟨j + 1, by go_num, by omega, hn.out, _, by rw [hq.out, World.drewN_drewN]⟩
      · have hno : res = false := by
          rw [← hres]
          refine decide_eq_false (fun h => hxy ?_)
          rw [h] at hx0
          rw [hx0] at hy0
          injection hy0
        rw [decide_eq_false hxy, Bool.not_false] at hne
        clear hall hmq
        replace hq := Lib.hid hq
        replace e1 := Lib.hid e1
        replace e2 := Lib.hid e2
        replace hxy := Lib.hid hxy
        replace hx0 := Lib.hid hx0
        replace hy0 := Lib.hid hy0
        replace hno := Lib.hid hno
        go_wp2_with (go_quiet (fail))
        go_ret
        exact ⟨by rw [hno.out] <;> rfl, hend.out.drewN _⟩
    · have hyes : res = true := by
        rw [← hres]
        refine decide_eq_true (he.out.2 ⟨h2.out, h1.out, ?_⟩)
        apply List.ext_getElem?
        intro i
        by_cases hi : i < j
        · exact hall i hi
        · rw [List.getElem?_eq_none (by rw [hal.out]; omega), List.getElem?_eq_none (by rw [hbl.out]; have := h3.out; omega)]
      obtain rfl : j = D.n := by omega
      have hend := Lib.hid (show Mod none_ w wr by rw [hq]; exact hM1.out.drewN q)
      clear hall
      replace hq := Lib.hid hq
      replace hyes := Lib.hid hyes
      go_wp2_with fail
      go_ret
      exact ⟨by rw [hyes.out] <;> rfl, hend.out⟩
theorem r14rt_ok (w : World) (a : Is) : Calls Tryz.prog 71 #[.agg #[.int .i64 a.r, .int .i64 a.n]] w fun e w' => e = .returned (.bool (rightI a)) ∧ Mod none_ w w' := by
  obtain ⟨ar, an⟩ := a
  have hr : Hid (rightI ⟨ar, an⟩ = decide (0 ≤ ar ∧ ar ≤ 6 ∧ 1 ≤ an ∧ an ≤ 10000)) := Lib.hid rfl
  dsimp only
  go_enter Tryz.func71, Tryz.ntmps71
  go_wp2_with fail
  all_goals
    go_ret
    refine ⟨?_, (Mod.refl none_ w).alloc _⟩
    rw [hr.out]
    first | (simp_all; done) | (simp; omega)
theorem r14ahead_ok (w : World) (a b : Is) : Calls Tryz.prog 72 #[.agg #[.int .i64 a.r, .int .i64 a.n], .agg #[.int .i64 b.r, .int .i64 b.n]] w fun e w' => e = .returned (.bool (isLt a b)) ∧ Mod none_ w w' := by
  obtain ⟨ar, an⟩ := a
  obtain ⟨br, bn⟩ := b
  have hr : Hid (isLt ⟨ar, an⟩ ⟨br, bn⟩ = decide (ar < br ∨ (ar = br ∧ an < bn))) := Lib.hid rfl
  dsimp only
  go_enter Tryz.func72, Tryz.ntmps72
  go_wp2_with fail
  all_goals
    go_ret
    refine ⟨?_, ((Mod.refl none_ w).alloc _).alloc _⟩
    rw [hr.out]
    first | (simp_all; done) | (simp; omega)
end Go.Proofs.YtdekehhmjehicaaGreat
/-
  The reference's Right of entries. No condition.
-/
namespace Go.Proofs.YtdekehhmjehicaaGreat
set_option linter.unusedVariables false
set_option linter.unusedSimpArgs false
open Go.RowKit
set_option maxRecDepth 100000 in
set_option maxHeartbeats 8000000 in
theorem r14right_ok (w : World) (i : Is) (e : En) (L D : SV) (hE : EnM w e L D) (hL : L.n ≤ 140737488355328) (hDn : D.n ≤ 140737488355328) (hz : ∀ l ∈ e.o.legs, (txt l.n).size ≤ maxLen) (ta : (txt e.o.acct).size ≤ maxLen) (tp : (txt e.o.peer).size ≤ maxLen) :
    Calls Tryz.prog 62 #[.agg #[.int .i64 i.r, .int .i64 i.n], .agg #[.int .i64 e.o.c, .int .i64 e.o.s, .int .i64 e.o.k, .string (txt e.o.acct), .string (txt e.o.peer), .int .i64 e.o.sum, .slice L.a L.n L.c, .int .i64 e.o.per, .int .i64 e.o.hold, .string (txt e.o.note), .bool e.none, .slice D.a D.n D.c]] w fun e' w' => e' = .returned (.bool (rightE i e)) ∧ Mod none_ w w' := by
  obtain ⟨DA, n, Dc⟩ := D
  dsimp only at hDn ⊢
  have kR := Lib.hid (fun W a => r14rt_ok W a)
  have kA := Lib.hid (fun W a b => r14ahead_ok W a b)
  have hlen := hE.rd.len
  have hrd := hE.rd
  dsimp only at hlen hrd
  have hB1 : Blk ((w.alloc (.cells #[.int .i64 i.r, .int .i64 i.n] 36)).alloc (.cells #[.int .i64 e.o.c, .int .i64 e.o.s, .int .i64 e.o.k, .string (txt e.o.acct), .string (txt e.o.peer), .int .i64 e.o.sum, .slice L.a L.n L.c, .int .i64 e.o.per, .int .i64 e.o.hold, .string (txt e.o.note), .bool e.none, .slice DA n Dc] 44)) w.heap.size 36 #[.int .i64 i.r, .int .i64 i.n] := (Blk.new w _ _).alloc _
  have hB2 : Blk ((w.alloc (.cells #[.int .i64 i.r, .int .i64 i.n] 36)).alloc (.cells #[.int .i64 e.o.c, .int .i64 e.o.s, .int .i64 e.o.k, .string (txt e.o.acct), .string (txt e.o.peer), .int .i64 e.o.sum, .slice L.a L.n L.c, .int .i64 e.o.per, .int .i64 e.o.hold, .string (txt e.o.note), .bool e.none, .slice DA n Dc] 44)) (w.heap.size + 1) 44 #[.int .i64 e.o.c, .int .i64 e.o.s, .int .i64 e.o.k, .string (txt e.o.acct), .string (txt e.o.peer), .int .i64 e.o.sum, .slice L.a L.n L.c, .int .i64 e.o.per, .int .i64 e.o.hold, .string (txt e.o.note), .bool e.none, .slice DA n Dc] := heap_alloc2_new w _ _
  have hm0 := ((Mod.refl none_ w).alloc (.cells #[.int .i64 i.r, .int .i64 i.n] 36)).alloc (.cells #[.int .i64 e.o.c, .int .i64 e.o.s, .int .i64 e.o.k, .string (txt e.o.acct), .string (txt e.o.peer), .int .i64 e.o.sum, .slice L.a L.n L.c, .int .i64 e.o.per, .int .i64 e.o.hold, .string (txt e.o.note), .bool e.none, .slice DA n Dc] 44)
  obtain ⟨wB, hwB⟩ : ∃ wB, (w.alloc (.cells #[.int .i64 i.r, .int .i64 i.n] 36)).alloc (.cells #[.int .i64 e.o.c, .int .i64 e.o.s, .int .i64 e.o.k, .string (txt e.o.acct), .string (txt e.o.peer), .int .i64 e.o.sum, .slice L.a L.n L.c, .int .i64 e.o.per, .int .i64 e.o.hold, .string (txt e.o.note), .bool e.none, .slice DA n Dc] 44) = wB := ⟨_, rfl⟩
  rw [hwB] at hB1 hB2 hm0
  replace hE := Lib.hid hE
  replace hB1 := Lib.hid hB1
  replace hB2 := Lib.hid hB2
  replace hm0 := Lib.hid hm0
  replace hlen := Lib.hid hlen
  replace hz := Lib.hid hz
  replace ta := Lib.hid ta
  replace tp := Lib.hid tp
  replace hwB := Lib.hid hwB
  replace hrd := Lib.hid hrd
  go_enter Tryz.func62, Tryz.ntmps62
  go_wp2_with fail
  rw [hwB.out]
  go_loopg [5] n (fun k x wr => ∃ j : Nat, x = .int .i64 j ∧ j + k = n ∧ (∀ j', j' < j → goodD i e.deps j' = true) ∧ Mod none_ wB wr)
  case atStart => exact ⟨0, rfl, by omega, fun j' h => absurd h (Nat.not_lt_zero _), Mod.refl _ _⟩
  case round =>
    obtain ⟨j, rfl, hj, hg, hmr⟩ := hrel
    have b1 := hB1.out.mod hmr (fun h => h)
    have b2 := hB2.out.mod hmr (fun h => h)
    have u11 : wr.cell? ⟨w.heap.size + 1, 11, none⟩ = some (.slice DA n Dc) := b2.cell_ rfl
    by_cases hlt : j < n
    · obtain ⟨b, o, d, rfl, hmem, hdj, y1, y2⟩ := rdp_get (hrd.out.mod0 (hm0.out.trans hmr)) hlt
      obtain ⟨dr, dn⟩ := d
      dsimp only at y1 y2
      have hjl : j < e.deps.length := by rw [hlen.out]; exact hlt
      have rd1 := hrd.out.mod0 (hm0.out.trans hmr)
      have hne : Nonempty (Cls (Mod none_ wr)) := ⟨⟨_, Mod.refl _ _⟩⟩
      have g0 : ∀ s : Cls (Mod none_ wr), s.W.cell? ⟨b, o + j*2, none⟩ = some (.int .i64 dr) := fun s => s.ok.cell_some y1 (fun h => h)
      have g1 : ∀ s : Cls (Mod none_ wr), s.W.cell? ⟨b, o + j*2 + 1, none⟩ = some (.int .i64 dn) := fun s => s.ok.cell_some y2 (fun h => h)
      have g2 : ∀ s : Cls (Mod none_ wr), s.W.cell? ⟨w.heap.size, 0, none⟩ = some (.int .i64 i.r) := fun s => (b1.mod s.ok (fun h => h)).cell_ rfl
      have g3 : ∀ s : Cls (Mod none_ wr), s.W.cell? ⟨w.heap.size, 1, none⟩ = some (.int .i64 i.n) := fun s => (b1.mod s.ok (fun h => h)).cell_ rfl
      have g4 : ∀ s : Cls (Mod none_ wr), s.W.cell? ⟨w.heap.size + 1, 11, none⟩ = some (.slice (some ⟨b, o, none⟩) n Dc) := fun s => (b2.mod s.ok (fun h => h)).cell_ rfl
      have kc := Lib.hid (fun s : Cls (Mod none_ wr) => (kR.out s.W ⟨dr, dn⟩).mono (fun e w' (h : _ ∧ _) => (⟨h.1, s.ok.trans h.2⟩ : _ ∧ Mod none_ wr w')))
      have hei := fun W => eql_is W ⟨dr, dn⟩ i
      unfold isV at hei
      dsimp only at hei
      have hu1 : (0 : Int) ≤ (j : Int) := by omega
      have hu2 : (j : Int) < (n : Int) := by omega
      have hgj : goodD i e.deps j = (rightI ⟨dr, dn⟩ && !decide ((⟨dr, dn⟩ : Is) = i) && (decide (j = 0) || match e.deps[j - 1]? with | none => true | some p => isLt p ⟨dr, dn⟩)) := by unfold goodD; rw [hdj] <;> rfl
      have hnx : goodD i e.deps j = true → ∀ j', j' < j + 1 → goodD i e.deps j' = true := fun h j' hj' => by
        by_cases e1 : j' = j
        · subst e1; exact h
        · exact hg j' (by omega)
      clear y1 y2
      replace b1 := Lib.hid b1
      replace b2 := Lib.hid b2
      cases hr : rightI ⟨dr, dn⟩ with
      | false =>
        rw [hr] at kc
        have hno := depsB_no hjl (by rw [hgj, hr] <;> rfl)
        have ka := kc
        clear hgj hnx
        replace rd1 := Lib.hid rd1
        replace hr := Lib.hid hr
        replace hno := Lib.hid hno
        replace hg := Lib.hid hg
        replace hmr := Lib.hid hmr
        replace hdj := Lib.hid hdj
        go_wp2_with fail
        refine wp_region_cls (Mod none_ wr) (by kernel_rfl) (by kernel_rfl) (Mod.refl none_ _).drew ?_
        try simp only [List.append_eq, List.cons_append, List.nil_append]
        repeat (go_big_quiet_step (first | (go_at_call 71; exact cls_of (kc.out _)) | (go_at_call 72; exact cls_of (ka.out _))))
        refine wpQuiet_nil ?_
        rintro _ ⟨⟨W, hW⟩, rfl⟩
        replace hW := Lib.hid (hm0.out.trans (hmr.out.trans hW))
        go_wp2_with fail
        go_ret
        refine ⟨?_, hW.out⟩
        rw [show rightE i e = false by unfold rightE; rw [hno.out] <;> rfl]; rfl
      | true =>
        rw [hr] at kc
        by_cases hdi : (⟨dr, dn⟩ : Is) = i
        · rw [decide_eq_true hdi] at hei
          have hno := depsB_no hjl (by rw [hgj, hr, decide_eq_true hdi] <;> rfl)
          have ka := kc
          clear hgj hnx
          replace rd1 := Lib.hid rd1
          replace hr := Lib.hid hr
          replace hdi := Lib.hid hdi
          replace hno := Lib.hid hno
          replace hg := Lib.hid hg
          replace hmr := Lib.hid hmr
          replace hdj := Lib.hid hdj
          go_wp2_with fail
          refine wp_region_cls (Mod none_ wr) (by kernel_rfl) (by kernel_rfl) (Mod.refl none_ _).drew ?_
          try simp only [List.append_eq, List.cons_append, List.nil_append]
          repeat (go_big_quiet_step (first | (go_at_call 71; exact cls_of (kc.out _)) | (go_at_call 72; exact cls_of (ka.out _))))
          refine wpQuiet_nil ?_
          rintro _ ⟨⟨W, hW⟩, rfl⟩
          replace hW := Lib.hid (hm0.out.trans (hmr.out.trans hW))
          go_wp2_with fail
          go_ret
          refine ⟨?_, hW.out⟩
          rw [show rightE i e = false by unfold rightE; rw [hno.out] <;> rfl]; rfl
        · rw [decide_eq_false hdi] at hei
          by_cases hj0 : j = 0
          · have hyes := hnx (by rw [hgj, hr, decide_eq_false hdi, decide_eq_true hj0] <;> rfl)
            have ka := kc
            clear hgj hnx
            replace rd1 := Lib.hid rd1
            replace hr := Lib.hid hr
            replace hdi := Lib.hid hdi
            subst hj0
            simp only [Nat.zero_mul, Nat.add_zero] at g0 g1
            replace hyes := Lib.hid hyes
            replace hg := Lib.hid hg
            replace hmr := Lib.hid hmr
            replace hdj := Lib.hid hdj
            go_wp2_with fail
            refine wp_region_cls (Mod none_ wr) (by kernel_rfl) (by kernel_rfl) (Mod.refl none_ _).drew ?_
            try simp only [List.append_eq, List.cons_append, List.nil_append]
            repeat (go_big_quiet_step (first | (go_at_call 71; exact cls_of (kc.out _)) | (go_at_call 72; exact cls_of (ka.out _))))
            refine wpQuiet_nil ?_
            rintro _ ⟨⟨W, hW⟩, rfl⟩
            replace hW := Lib.hid (hmr.out.trans hW)
            go_wp2_with fail
            go_roundg (gk - 1)
            case measure => omega
            case rel => exact ⟨0 + 1, by go_num, by omega, hyes.out, hW.out⟩
          · obtain ⟨j1, rfl⟩ : ∃ j1, j = j1 + 1 := ⟨j - 1, by omega⟩
            obtain ⟨b', o', p, hbo, hmp, hdp, z1, z2⟩ := rdp_get rd1 (j := j1) (by omega)
            cases hbo
            obtain ⟨pr, pn⟩ := p
            dsimp only at z1 z2
            have g5 : ∀ s : Cls (Mod none_ wr), s.W.cell? ⟨b, o + j1*2, none⟩ = some (.int .i64 pr) := fun s => s.ok.cell_some z1 (fun h => h)
            have g6 : ∀ s : Cls (Mod none_ wr), s.W.cell? ⟨b, o + j1*2 + 1, none⟩ = some (.int .i64 pn) := fun s => s.ok.cell_some z2 (fun h => h)
            clear z1 z2
            have ka := Lib.hid (fun s : Cls (Mod none_ wr) => (kA.out s.W ⟨pr, pn⟩ ⟨dr, dn⟩).mono (fun e w' (h : _ ∧ _) => (⟨h.1, s.ok.trans h.2⟩ : _ ∧ Mod none_ wr w')))
            rw [show j1 + 1 - 1 = j1 from rfl, hdp] at hgj
            dsimp only at hgj
            have hw1 : wrap64 (((j1 + 1 : Nat) : Int) - 1) = (j1 : Int) := by unfold wrap64; omega
            have hw2 : IntKind.i64.wrap (((j1 + 1 : Nat) : Int) - 1) = (j1 : Int) := by rw [IntKind.wrap_i64]; omega
            have hw3 : ((j1 : Int) + 1 - 1) = (j1 : Int) := by omega
            have hu3 : (0 : Int) ≤ (j1 : Int) := by omega
            have hu4 : (j1 : Int) < (n : Int) := by omega
            cases hlt2 : isLt ⟨pr, pn⟩ ⟨dr, dn⟩ with
            | false =>
              rw [hlt2] at ka
              have hno := depsB_no hjl (by rw [hgj, hr, decide_eq_false hdi, hlt2] <;> rfl)
              clear hgj hnx
              replace rd1 := Lib.hid rd1
              replace hr := Lib.hid hr
              replace hdi := Lib.hid hdi
              replace hdp := Lib.hid hdp
              replace hmp := Lib.hid hmp
              replace hlt2 := Lib.hid hlt2
              replace hno := Lib.hid hno
              replace hg := Lib.hid hg
              replace hmr := Lib.hid hmr
              replace hdj := Lib.hid hdj
              go_wp2_with fail
              refine wp_region_cls (Mod none_ wr) (by kernel_rfl) (by kernel_rfl) (Mod.refl none_ _).drew ?_
              try simp only [List.append_eq, List.cons_append, List.nil_append]
              repeat (go_big_quiet_step (first | (go_at_call 71; exact cls_of (kc.out _)) | (go_at_call 72; exact cls_of (ka.out _))))
              refine wpQuiet_nil ?_
              rintro _ ⟨⟨W, hW⟩, rfl⟩
              replace hW := Lib.hid (hm0.out.trans (hmr.out.trans hW))
              go_wp2_with fail
              go_ret
              refine ⟨?_, hW.out⟩
              rw [show rightE i e = false by unfold rightE; rw [hno.out] <;> rfl]; rfl
            | true =>
              rw [hlt2] at ka
              have hyes := hnx (by rw [hgj, hr, decide_eq_false hdi, hlt2]; simp)
              clear hgj hnx
              replace rd1 := Lib.hid rd1
              replace hr := Lib.hid hr
              replace hdi := Lib.hid hdi
              replace hdp := Lib.hid hdp
              replace hmp := Lib.hid hmp
              replace hlt2 := Lib.hid hlt2
              replace hyes := Lib.hid hyes
              replace hg := Lib.hid hg
              replace hmr := Lib.hid hmr
              replace hdj := Lib.hid hdj
              go_wp2_with fail
              refine wp_region_cls (Mod none_ wr) (by kernel_rfl) (by kernel_rfl) (Mod.refl none_ _).drew ?_
              try simp only [List.append_eq, List.cons_append, List.nil_append]
              repeat (go_big_quiet_step (first | (go_at_call 71; exact cls_of (kc.out _)) | (go_at_call 72; exact cls_of (ka.out _))))
              refine wpQuiet_nil ?_
              rintro _ ⟨⟨W, hW⟩, rfl⟩
              replace hW := Lib.hid (hmr.out.trans hW)
              go_wp2_with fail
              go_roundg (gk - 1)
              case measure => omega
              case rel => exact ⟨j1 + 1 + 1, by go_num, by omega, hyes.out, hW.out⟩
    · obtain rfl : j = n := by omega
      have hdp : depsB i e.deps = true := depsB_yes fun j' h => hg j' (by rw [hlen.out] at h; exact h)
      have hm1 := hm0.out.trans hmr
      have kI := Lib.hid (fun W => kR.out W i)
      have hre : rightE i e = (rightI i && (if e.none then decide (e.o = od0) else rightO e.o)) := by unfold rightE; rw [hdp] <;> rfl
      have q10 : wr.cell? ⟨w.heap.size + 1, 10, none⟩ = some (.bool e.none) := b2.cell_ rfl
      have e0 : wr.cell? ⟨w.heap.size + 1, 0, none⟩ = some (.int .i64 e.o.c) := b2.cell_ rfl
      have e1 : wr.cell? ⟨w.heap.size + 1, 1, none⟩ = some (.int .i64 e.o.s) := b2.cell_ rfl
      have e2 : wr.cell? ⟨w.heap.size + 1, 2, none⟩ = some (.int .i64 e.o.k) := b2.cell_ rfl
      have e3 : wr.cell? ⟨w.heap.size + 1, 3, none⟩ = some (.string (txt e.o.acct)) := b2.cell_ rfl
      have e4 : wr.cell? ⟨w.heap.size + 1, 4, none⟩ = some (.string (txt e.o.peer)) := b2.cell_ rfl
      have e5 : wr.cell? ⟨w.heap.size + 1, 5, none⟩ = some (.int .i64 e.o.sum) := b2.cell_ rfl
      have e6 : wr.cell? ⟨w.heap.size + 1, 6, none⟩ = some (.slice L.a L.n L.c) := b2.cell_ rfl
      have e7 : wr.cell? ⟨w.heap.size + 1, 7, none⟩ = some (.int .i64 e.o.per) := b2.cell_ rfl
      have e8 : wr.cell? ⟨w.heap.size + 1, 8, none⟩ = some (.int .i64 e.o.hold) := b2.cell_ rfl
      have e9 : wr.cell? ⟨w.heap.size + 1, 9, none⟩ = some (.string (txt e.o.note)) := b2.cell_ rfl
      cases hnn : e.none with
      | true =>
        rw [hnn] at q10 hre
        rw [if_pos rfl] at hre
        have kS := Lib.hid (same6_ok wr e.o od0 L ⟨none, 0, 0⟩ (hE.out.od.mod0 hm1) (od0_mem wr) hL (by decide))
        generalize decide (e.o = od0) = z at *
        unfold od0 at kS
        replace hg := Lib.hid hg
        replace hmr := Lib.hid hmr
        replace hdp := Lib.hid hdp
        replace b1 := Lib.hid b1
        replace b2 := Lib.hid b2
        replace hm1 := Lib.hid hm1
        replace hnn := Lib.hid hnn
        replace hre := Lib.hid hre
        go_wp2_with fail
        have kS1 := kS.out
        rw [txt_nil] at kS1
        refine kS1.mono ?_
        rintro e' w2 ⟨rfl, hm2⟩
        dsimp only
        have hm3 := Lib.hid (hm1.out.trans hm2)
        have b3 := Lib.hid (b1.out.mod hm2 (fun h => h))
        have b4 := Lib.hid (b2.out.mod hm2 (fun h => h))
        have p0 : w2.cell? ⟨w.heap.size, 0, none⟩ = some (.int .i64 i.r) := b3.out.cell_ rfl
        have p1 : w2.cell? ⟨w.heap.size, 1, none⟩ = some (.int .i64 i.n) := b3.out.cell_ rfl
        clear hm2 kS kS1
        go_wp2_with fail
        refine (kI.out w2).mono ?_
        rintro e' w4 ⟨rfl, hm4⟩
        dsimp only
        have hm5 := Lib.hid (hm3.out.trans hm4)
        have b6 := Lib.hid (b4.out.mod hm4 (fun h => h))
        have q11 : w4.cell? ⟨w.heap.size + 1, 10, none⟩ = some (.bool true) := by rw [b6.out.cell_ (v := .bool e.none) rfl, hnn.out]
        clear hm4
        cases hri : rightI i with
        | false =>
          have hre := Lib.hid (hre.out.trans (by rw [hri]))
          replace hri := Lib.hid hri
          go_wp2_with fail
          go_ret
          exact ⟨by rw [hre.out] <;> rfl, hm5.out⟩
        | true =>
          have hre := Lib.hid (hre.out.trans (by rw [hri]))
          replace hri := Lib.hid hri
          cases z with
          | false =>
            go_wp2_with fail
            go_ret
            exact ⟨by rw [hre.out] <;> rfl, hm5.out⟩
          | true =>
            go_wp2_with fail
            go_ret
            exact ⟨by rw [hre.out] <;> rfl, hm5.out⟩
      | false =>
        rw [hnn] at q10 hre
        rw [if_neg (by simp)] at hre
        have kO := Lib.hid (fun W (h : Mod none_ wr W) => r06right_ok W e.o L (hE.out.od.mod0 (hm1.trans h)) hL hz.out ta.out tp.out)
        replace hg := Lib.hid hg
        replace hmr := Lib.hid hmr
        replace hdp := Lib.hid hdp
        replace hm1 := Lib.hid hm1
        replace hnn := Lib.hid hnn
        replace hre := Lib.hid hre
        have p0 : wr.cell? ⟨w.heap.size, 0, none⟩ = some (.int .i64 i.r) := b1.cell_ rfl
        have p1 : wr.cell? ⟨w.heap.size, 1, none⟩ = some (.int .i64 i.n) := b1.cell_ rfl
        replace b1 := Lib.hid b1
        replace b2 := Lib.hid b2
        go_wp2_with fail
        refine (kI.out wr).mono ?_
        rintro e' w2 ⟨rfl, hm2⟩
        dsimp only
        have hm3 := Lib.hid (hm1.out.trans hm2)
        have b4 := Lib.hid (b2.out.mod hm2 (fun h => h))
        have kO2 := Lib.hid (kO.out w2 hm2)
        have q11 : w2.cell? ⟨w.heap.size + 1, 10, none⟩ = some (.bool false) := by rw [b4.out.cell_ (v := .bool e.none) rfl, hnn.out]
        have d0 : w2.cell? ⟨w.heap.size + 1, 0, none⟩ = some (.int .i64 e.o.c) := b4.out.cell_ rfl
        have d1 : w2.cell? ⟨w.heap.size + 1, 1, none⟩ = some (.int .i64 e.o.s) := b4.out.cell_ rfl
        have d2 : w2.cell? ⟨w.heap.size + 1, 2, none⟩ = some (.int .i64 e.o.k) := b4.out.cell_ rfl
        have d3 : w2.cell? ⟨w.heap.size + 1, 3, none⟩ = some (.string (txt e.o.acct)) := b4.out.cell_ rfl
        have d4 : w2.cell? ⟨w.heap.size + 1, 4, none⟩ = some (.string (txt e.o.peer)) := b4.out.cell_ rfl
        have d5 : w2.cell? ⟨w.heap.size + 1, 5, none⟩ = some (.int .i64 e.o.sum) := b4.out.cell_ rfl
        have d6 : w2.cell? ⟨w.heap.size + 1, 6, none⟩ = some (.slice L.a L.n L.c) := b4.out.cell_ rfl
        have d7 : w2.cell? ⟨w.heap.size + 1, 7, none⟩ = some (.int .i64 e.o.per) := b4.out.cell_ rfl
        have d8 : w2.cell? ⟨w.heap.size + 1, 8, none⟩ = some (.int .i64 e.o.hold) := b4.out.cell_ rfl
        have d9 : w2.cell? ⟨w.heap.size + 1, 9, none⟩ = some (.string (txt e.o.note)) := b4.out.cell_ rfl
        clear hm2 kO
        cases hri : rightI i with
        | false =>
          have hre := Lib.hid (hre.out.trans (by rw [hri]))
          replace hri := Lib.hid hri
          go_wp2_with fail
          go_ret
          exact ⟨by rw [hre.out] <;> rfl, hm3.out⟩
        | true =>
          have hre := Lib.hid (hre.out.trans (by rw [hri]))
          replace hri := Lib.hid hri
          go_wp2_with fail
          refine kO2.out.mono ?_
          rintro e' w3 ⟨rfl, hm4⟩
          dsimp only
          have hm5 := Lib.hid (hm3.out.trans hm4)
          replace hm4 := Lib.hid hm4
          go_wp2_with fail
          go_ret
          exact ⟨by rw [hre.out] <;> rfl, hm5.out⟩
end Go.Proofs.YtdekehhmjehicaaGreat
