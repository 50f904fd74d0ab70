/-
  The reference's Check.
-/
import Derived.Test.YtaohgefpnndjcaaVoRef1
import Derived.Test.YtaohgefpnndjcaaRefTot
import Derived.Deep.RegionHeld3
namespace Go.Proofs.Ytaohgefpnndjcaa
set_option linter.unusedVariables false
open Go.RowKit
theorem check_first {C : List Ac} {ls : List Lg} (ho : OkC C) (hs : SortedC C) (h : rightB ls = true) : (allR C ls).2 = firstE (checkE C) ls := by
  obtain ⟨_, hn, _⟩ := (right_iff ls).1 h
  rw [all_first ls hs hn]
  exact firstE_congr fun l _ => check_post ho l
def CkRel (w : World) (q B : Nat) (C : List Ac) (ls : List Lg) (j : Nat) (wr : World) : Prop := firstE (checkE C) ls = firstE (checkE C) (ls.drop j) ∧ RefAt wr q B C ∧ Mod none_ w wr
set_option maxRecDepth 100000 in
set_option maxHeartbeats 4000000 in
theorem rcheck_ok (w : World) (q B : Nat) (C : List Ac) (A : Option Addr) (n c : Nat) (ls : List Lg) (hR : RefAt w q B C) (oC : OkC C) (hs : SortedC C) (h : RdL w A n ls) (hn : n ≤ 1000) (hz : ∀ l ∈ ls, LgOk l) :
    Calls Try.prog 13 #[.pointer (some ⟨q, 0, none⟩), .slice A n c] w fun e w' => e = .returned (.int .i64 (checkR C ls)) ∧ Mod none_ w w' := by
  have hl := h.len
  have hin : I64s (ls.map fun l : Lg => l.x) := by
    intro y hy
    obtain ⟨a, ha, rfl⟩ := List.mem_map.1 hy
    exact (hz a ha).2
  have c0 := Lib.hid (rright_ok w A n c ls h hn hz)
  have hC12 := oC.2
  unfold checkR
  cases hrt : rightB ls with
  | false =>
    rw [hrt] at c0
    rw [if_pos rfl]
    replace h := Lib.hid h
    replace hz := Lib.hid hz
    replace hR := Lib.hid hR
    replace oC := Lib.hid oC
    replace hin := Lib.hid hin
    replace hs := Lib.hid hs
    replace hrt := Lib.hid hrt
    go_enter Try.func13, Try.ntmps13
    go_wp2_with fail
    refine c0.out.mono ?_
    rintro e w1 ⟨rfl, kx, rfl⟩
    dsimp only
    go_wp2_with fail
    go_ret
    exact ⟨rfl, (Mod.refl _ _).drewN _⟩
  | true =>
    rw [hrt] at c0
    rw [if_neg (by simp), check_first oC hs hrt]
    obtain ⟨res, hres⟩ : ∃ r, (if weighB ls = false then (8 : Int) else firstE (checkE C) ls) = r := ⟨_, rfl⟩
    rw [hres]
    replace h := Lib.hid h
    replace hz := Lib.hid hz
    replace hR := Lib.hid hR
    replace oC := Lib.hid oC
    replace hin := Lib.hid hin
    replace hs := Lib.hid hs
    replace hrt := Lib.hid hrt
    replace hres := Lib.hid hres
    go_enter Try.func13, Try.ntmps13
    go_wp2_with fail
    refine c0.out.mono ?_
    rintro e w1 ⟨rfl, kx, rfl⟩
    dsimp only
    go_wp2_with fail
    go_loopw [5, 6] (fun v x wr => ∃ j : Nat, x = .int .i64 j ∧ j ≤ n ∧ ∃ A' c', v = .slice A' j c' ∧ OwI wr A' j c' ((ls.map fun l : Lg => l.x).take j) ∧ Fresh w A' ∧ Mod none_ w wr) (fun _ x _ => n - (intOf x).toNat)
    case atStart => exact ⟨0, rfl, by omega, none, 0, rfl, Ow.nil _ _ _, (fun _ h => by cases h), (Mod.refl _ _).drewN _⟩
    case round =>
      obtain ⟨j, rfl, hj, A', c', rfl, how, hf, hm⟩ := hrel
      by_cases hlt : j < n
      · obtain ⟨g, o, l, rfl, hmem, hjl, y1, y2⟩ := rdl_get (h.out.mod0 hm) hlt
        have hnx : ((ls.map fun l : Lg => l.x).take j) ++ [l.x] = ((ls.map fun l : Lg => l.x).take (j+1)) := by
          have hjlt : j < ls.length := by omega
          rw [List.getElem?_eq_getElem hjlt] at hjl
          injection hjl with hjl
          rw [List.take_succ_eq_append_getElem (by simpa using hjlt), List.getElem_map, hjl]
        have hgl := World.block_lt_of_cell? wr _ y2
        obtain ⟨x, hx⟩ : ∃ x, l.x = x := ⟨_, rfl⟩
        rw [hx] at y2 hnx
        replace how := Lib.hid how
        replace hf := Lib.hid hf
        replace hm := Lib.hid hm
        replace hnx := Lib.hid hnx
        replace hmem := Lib.hid hmem
        replace hjl := Lib.hid hjl
        replace hx := Lib.hid hx
        go_wp2_with (at_builtin; go_loud (refine app64 rfl (.tmp 25) (.tmp 31) rfl rfl (Ow.mod0 how.out ((Mod.refl none_ _).alloc _)) rfl (rdi_one _ _ _) (by omega) ?_; intro A2 c2 w2 ho2 hm2 hA2; replace ho2 := Lib.hid ho2; replace hm2 := Lib.hid hm2; replace hA2 := Lib.hid hA2))
        go_roundw
        case rel =>
          refine ⟨j + 1, by go_num, by omega, A2, c2, rfl, ?_, Fresh.app hf.out (hm.out.alloc _).size hA2.out, (hm.out.alloc _).app hf.out hm2.out⟩
          rw [← hnx.out]; exact ho2.out
        case measure => simp [intOf]; omega
      · have hall : ((ls.map fun l : Lg => l.x).take j) = ls.map fun l : Lg => l.x := List.take_of_length_le (by rw [List.length_map]; omega)
        rw [hall] at how
        have hjn : j ≤ 1000 := by omega
        have ct := Lib.hid (rtotal_ok wr A' j c' (ls.map fun l : Lg => l.x) (Ow.rd how) (by omega) hin.out)
        have hw : weighB ls = (decide (isum (ls.map fun l => l.x) = 0)) := rfl
        generalize isum (ls.map fun l : Lg => l.x) = t at ct hw
        unfold SPost at ct
        clear hall
        by_cases h0 : t = 0
        · subst h0
          rw [show sumR 0 = (0, 0) from rfl] at ct
          replace ct := Lib.hid (ct.out.mono (fun e w' (hp : _ ∧ _) => (⟨hp.1, hp.2⟩ : e = .returned (.tuple #[.int .i64 0, .int .i64 0]) ∧ Mod none_ wr w')))
          have hres2 := hres.out
          rw [hw, if_neg (by simp)] at hres2
          clear hres hw
          replace how := Lib.hid how
          replace hf := Lib.hid hf
          replace hm := Lib.hid hm
          go_wp2_with fail
          refine ct.out.mono ?_
          rintro e w3 ⟨rfl, hm3⟩
          dsimp only
          have hmm := Lib.hid (hm.out.trans hm3)
          clear hm3 how hf hm
          replace hres2 := Lib.hid hres2
          go_wp2_with fail
          go_loopw [9] (fun x wr2 => ∃ i : Nat, x = .int .i64 i ∧ i ≤ n ∧ CkRel w q B C ls i wr2) (fun x _ => n - (intOf x).toNat)
          case atStart => exact ⟨0, rfl, by omega, rfl, hR.out.mod0 hmm.out, hmm.out⟩
          case round =>
            obtain ⟨i, rfl, hi, hfst, hRi, hmi⟩ := hrel
            by_cases hil : i < n
            · obtain ⟨g, o, l, rfl, hmem, hjl, y1, y2⟩ := rdl_get (h.out.mod0 hmi) hil
              have hlok := hz.out l hmem
              have hgl := World.block_lt_of_cell? wr _ y1
              have hdr : ls.drop i = l :: ls.drop (i + 1) := by
                have hjlt : i < ls.length := by omega
                rw [List.getElem?_eq_getElem hjlt] at hjl
                injection hjl with hjl
                rw [List.drop_eq_getElem_cons hjlt, hjl]
              rw [hdr, show firstE (checkE C) (l :: ls.drop (i + 1)) = (if checkE C l ≠ 0 then checkE C l else firstE (checkE C) (ls.drop (i + 1))) from rfl] at hfst
              have cg := Lib.hid (rget_ok wr q B C l.n hRi (by omega))
              unfold GetPost getV at cg
              obtain ⟨ce, hce⟩ : ∃ v, checkE C l = v := ⟨_, rfl⟩
              rw [hce] at hfst
              unfold checkE at hce
              cases hg : getC C l.n with
              | none =>
                rw [hg] at cg hce
                dsimp only at hce
                subst hce
                rw [if_pos (by omega)] at hfst
                unfold zeroA at cg
                replace hRi := Lib.hid hRi
                replace hmi := Lib.hid hmi
                replace hmem := Lib.hid hmem
                replace hjl := Lib.hid hjl
                replace hlok := Lib.hid hlok
                replace hdr := Lib.hid hdr
                replace hg := Lib.hid hg
                replace hfst := Lib.hid hfst
                go_wp2_with fail
                refine cg.out.mono ?_
                rintro e w4 ⟨rfl, hm4⟩
                dsimp only
                have hmm4 := Lib.hid (hmi.out.trans hm4)
                clear hm4
                go_wp2_with fail
                go_ret
                exact ⟨by rw [← hres2.out, hfst.out]; rfl, hmm4.out.alloc _⟩
              | some a =>
                rw [hg] at cg hce
                dsimp only at hce
                unfold acV at cg
                have hwa := oC.out.wf a (getC_mem hg)
                have cl := Lib.hid (fun W => (rless_ok W 0 l.x (by unfold I64; omega) hlok.2).mono (fun e w' hp => SPost.act hp))
                have cad := Lib.hid (fun W => (radd_ok W a.h l.x hwa.1 hlok.2).mono (fun e w' hp => SPost.act hp))
                unfold APost at cl cad
                have hI1 : I64 (actR (0 - l.x)).1 := actR_i64 _
                obtain ⟨⟨r1, r2⟩, hrr⟩ : ∃ r, actR (0 - l.x) = r := ⟨_, rfl⟩
                obtain ⟨⟨s1, s2⟩, hss⟩ : ∃ r, actR (a.h + l.x) = r := ⟨_, rfl⟩
                rw [hrr] at cl hce hI1
                rw [hss] at cad hce
                dsimp only at cl cad hce hI1
                have cf := Lib.hid (fun W => rfree_ok W a r1 hwa hI1)
                obtain ⟨x, hx⟩ : ∃ x, l.x = x := ⟨_, rfl⟩
                rw [hx] at y2 cl cad
                obtain ⟨fb, hfb⟩ : ∃ v, freeB a r1 = v := ⟨_, rfl⟩
                rw [hfb] at cf hce
                unfold acV at cf
                obtain ⟨an, ah, as_, al⟩ := a
                dsimp only at cg cad cf
                replace hRi := Lib.hid hRi
                replace hmi := Lib.hid hmi
                replace hmem := Lib.hid hmem
                replace hjl := Lib.hid hjl
                replace hlok := Lib.hid hlok
                replace hdr := Lib.hid hdr
                replace hg := Lib.hid hg
                replace hfst := Lib.hid hfst
                replace hce := Lib.hid hce
                replace hrr := Lib.hid hrr
                replace hss := Lib.hid hss
                replace hx := Lib.hid hx
                replace hfb := Lib.hid hfb
                replace hwa := Lib.hid hwa
                replace hI1 := Lib.hid hI1
                go_wp2_with fail
                refine cg.out.mono ?_
                rintro e w4 ⟨rfl, hm4⟩
                dsimp only
                have y1' := hm4.cell_some y1 (fun h => h)
                have y2' := hm4.cell_some y2 (fun h => h)
                have hgl4 := World.block_lt_of_cell? w4 _ y1'
                have hmm4 := Lib.hid (hmi.out.trans hm4)
                have hB4 := Blk.new w4 46 #[.string (txt an), .int .i64 ah, .int .i64 as_, .int .i64 al]
                have z2 : (w4.alloc (.cells #[.string (txt an), .int .i64 ah, .int .i64 as_, .int .i64 al] 46)).cell? ⟨g, o + i*2 + 1, none⟩ = some (.int .i64 x) := (World.cell?_alloc_lt _ _ _ (World.block_lt_of_cell? w4 _ y2')).trans y2'
                clear hm4
                replace hB4 := Lib.hid hB4
                replace z2 := Lib.hid z2
                go_wp2_with fail
                refine (cl.out _).mono ?_
                rintro e w5 ⟨rfl, hm5⟩
                dsimp only
                have hB5 := hB4.out.mod hm5 (fun h => h)
                have b1 : w5.cell? ⟨w4.heap.size, 1, none⟩ = some (.int .i64 ah) := hB5.cell_ rfl
                have z25 : w5.cell? ⟨g, o + i*2 + 1, none⟩ = some (.int .i64 x) := hm5.cell_some z2.out (fun h => h)
                have hmm5 := Lib.hid ((hmm4.out.alloc (.cells #[.string (txt an), .int .i64 ah, .int .i64 as_, .int .i64 al] 46)).trans hm5)
                clear hm5
                replace hB5 := Lib.hid hB5
                clear y1 y2 y1' y2' hgl4
                go_upto_region 18 with fail
                go_region_held3 (fun W => W.cell? ⟨w4.heap.size, 1, none⟩ = some (.int .i64 ah) ∧ W.cell? ⟨g, o + i*2 + 1, none⟩ = some (.int .i64 x)) (first | exact ⟨b1, z25⟩ | exact ⟨hm6.cell_some b1 (fun h => h), hm6.cell_some z25 (fun h => h)⟩) ((go_at_call 40; (with_reducible refine (cad.out _).mono ?_); rintro e6 w6 ⟨rfl, hm6⟩; dsimp only))
                all_goals
                  have hB6 := hB5.out.drew.mod hm6 (fun h => h)
                  have d0 : w6.cell? ⟨w4.heap.size, 0, none⟩ = some (.string (txt an)) := hB6.cell_ rfl
                  have d1 : w6.cell? ⟨w4.heap.size, 1, none⟩ = some (.int .i64 ah) := hB6.cell_ rfl
                  have d2 : w6.cell? ⟨w4.heap.size, 2, none⟩ = some (.int .i64 as_) := hB6.cell_ rfl
                  have d3 : w6.cell? ⟨w4.heap.size, 3, none⟩ = some (.int .i64 al) := hB6.cell_ rfl
                  have hmm6 := Lib.hid ((hmm5.out.drew).trans hm6)
                  have hR6 : Hid (RefAt w6 q B C) := Lib.hid (hR.out.mod0 hmm6.out)
                  clear hm6 hB6 b1 z25
                  by_cases h2 : r2 = 0
                  · by_cases h3 : s2 = 0
                    · subst h2
                      subst h3
                      have hce2 := hce.out
                      rw [if_neg (by simp)] at hce2
                      by_cases h4 : 0 < r1
                      · have f1 : decide (0 < r1) = true := decide_eq_true h4
                        cases fb with
                        | false =>
                          rw [if_pos ⟨h4, rfl⟩] at hce2
                          subst hce2
                          have hfst2 := hfst.out
                          rw [if_pos (by omega)] at hfst2
                          replace h4 := Lib.hid h4
                          replace hfst2 := Lib.hid hfst2
                          go_wp2_with fail
                          refine (cf.out _).mono ?_
                          rintro e w7 ⟨rfl, hm7⟩
                          dsimp only
                          have hmm7 := Lib.hid (hmm6.out.trans hm7)
                          clear hm7
                          go_wp2_with fail
                          go_ret
                          exact ⟨by rw [← hres2.out, hfst2.out]; rfl, hmm7.out⟩
                        | true =>
                          rw [if_neg (by simp)] at hce2
                          subst hce2
                          have hfst2 := hfst.out
                          rw [if_neg (by simp)] at hfst2
                          replace h4 := Lib.hid h4
                          replace hfst2 := Lib.hid hfst2
                          go_wp2_with fail
                          refine (cf.out _).mono ?_
                          rintro e w7 ⟨rfl, hm7⟩
                          dsimp only
                          have hmm7 := Lib.hid (hmm6.out.trans hm7)
                          have hR7 := Lib.hid (hR6.out.mod0 hm7)
                          clear hm7
                          go_wp2_with fail
                          go_roundw
                          case rel => exact ⟨i + 1, by go_num, by omega, hfst2.out, hR7.out, hmm7.out⟩
                          case measure => simp [intOf]; omega
                      · have f1 : decide (0 < r1) = false := decide_eq_false h4
                        rw [if_neg (by rintro ⟨h, _⟩; exact h4 h)] at hce2
                        subst hce2
                        have hfst2 := hfst.out
                        rw [if_neg (by simp)] at hfst2
                        replace h4 := Lib.hid h4
                        replace hfst2 := Lib.hid hfst2
                        go_wp2_with fail
                        go_roundw
                        case rel => exact ⟨i + 1, by go_num, by omega, hfst2.out, hR6.out, hmm6.out⟩
                        case measure => simp [intOf]; omega
                    · subst h2
                      have f1 : (s2 == 0) = false := by simpa using h3
                      have hce2 := hce.out
                      rw [if_pos (.inr h3)] at hce2
                      subst hce2
                      have hfst2 := hfst.out
                      rw [if_pos (by omega)] at hfst2
                      replace h3 := Lib.hid h3
                      replace hfst2 := Lib.hid hfst2
                      go_wp2_with fail
                      go_ret
                      exact ⟨by rw [← hres2.out, hfst2.out]; rfl, hmm6.out⟩
                  · have f1 : (r2 == 0) = false := by simpa using h2
                    have hce2 := hce.out
                    rw [if_pos (.inl h2)] at hce2
                    subst hce2
                    have hfst2 := hfst.out
                    rw [if_pos (by omega)] at hfst2
                    replace h2 := Lib.hid h2
                    replace hfst2 := Lib.hid hfst2
                    go_wp2_with fail
                    go_ret
                    exact ⟨by rw [← hres2.out, hfst2.out]; rfl, hmm6.out⟩
            · have hd0 : ls.drop i = [] := List.drop_eq_nil_of_le (by omega)
              rw [hd0] at hfst
              replace hRi := Lib.hid hRi
              replace hmi := Lib.hid hmi
              replace hfst := Lib.hid hfst
              replace hd0 := Lib.hid hd0
              go_wp2_with fail
              go_ret
              exact ⟨by rw [← hres2.out, hfst.out]; rfl, hmi.out⟩
        · have hwf : weighB ls = false := by rw [hw, decide_eq_false h0]
          have hres2 := hres.out
          rw [if_pos hwf] at hres2
          clear hres hw hwf
          cases hi : inI t with
          | false =>
            rw [sumR_no hi] at ct
            replace how := Lib.hid how
            replace hf := Lib.hid hf
            replace hm := Lib.hid hm
            replace hres2 := Lib.hid hres2
            go_wp2_with fail
            refine ct.out.mono ?_
            rintro e w3 ⟨rfl, hm3⟩
            dsimp only
            have hmm := Lib.hid (hm.out.trans hm3)
            clear hm3
            go_wp2_with fail
            go_ret
            exact ⟨by rw [← hres2.out]; rfl, hmm.out⟩
          | true =>
            rw [sumR_yes hi] at ct
            have e1 : (t == 0) = false := by simpa using h0
            replace how := Lib.hid how
            replace hf := Lib.hid hf
            replace hm := Lib.hid hm
            replace hres2 := Lib.hid hres2
            replace h0 := Lib.hid h0
            go_wp2_with fail
            refine ct.out.mono ?_
            rintro e w3 ⟨rfl, hm3⟩
            dsimp only
            have hmm := Lib.hid (hm.out.trans hm3)
            clear hm3
            go_wp2_with fail
            go_ret
            exact ⟨by rw [← hres2.out]; rfl, hmm.out⟩
end Go.Proofs.Ytaohgefpnndjcaa
