import Derived.Test.YtaohgefpnndjcaaBq12
import Derived.Test.YtaohgefpnndjcaaBq13
import Derived.Test.YtaohgefpnndjcaaBq11
import Derived.Deep.RegionHeld3
import Derived.Test.YtaohgefpnndjcaaBq14
import Derived.Test.YtaohgefpnndjcaaBq8
/-
  What posting weighs: sums before and behind. Plain.
-/
namespace Go.Proofs.Ytaohgefpnndjcaa
set_option linter.unusedVariables false
open Go.RowKit
def hsum (C : List Ac) : Int := isum (C.map fun a => a.h)
theorem upd_none {C : List Ac} {l : Lg} (h : ∀ a ∈ C, a.n ≠ l.n) : updL C l = C := by
  unfold updL
  conv => rhs; rw [← List.map_id C]
  exact List.map_congr_left fun a ha => by rw [if_neg (h a ha)]; rfl
theorem upd_sum {l : Lg} : ∀ {C : List Ac} {a : Ac}, SortedC C → getC C l.n = some a → hsum (updL C l) = hsum C + l.x
  | [], a, _, h => by simp [getC] at h
  | y :: t, a, hs, h => by
    obtain ⟨h1, h2⟩ := List.pairwise_cons.1 hs
    by_cases e : y.n = l.n
    · have ht : updL t l = t := upd_none fun x hx hn => bb_ne (h1 x hx) (by rw [e, hn])
      have hu : updL (y :: t) l = { y with h := y.h + l.x } :: updL t l := by
        unfold updL
        rw [List.map_cons, if_pos e]
      rw [hu, ht]
      unfold hsum
      rw [List.map_cons, List.map_cons, isum_cons, isum_cons]
      dsimp only
      omega
    · have hg : getC t l.n = some a := by
        unfold getC at h ⊢
        rwa [List.find?_cons_of_neg (by simpa using e)] at h
      have ih := upd_sum h2 hg
      have hu : updL (y :: t) l = y :: updL t l := by
        unfold updL
        rw [List.map_cons, if_neg e]
      rw [hu]
      unfold hsum at ih ⊢
      rw [List.map_cons, List.map_cons, isum_cons, isum_cons, ih]
      omega
theorem apply_nil (C : List Ac) : applyL C [] = C := by
  show C.map (addL []) = C
  conv => rhs; rw [← List.map_id C]
  exact List.map_congr_left fun a _ => rfl
theorem apply_sum : ∀ (ls : List Lg) {C : List Ac}, SortedC C → (ls.map fun l => l.n).Nodup → (∀ l ∈ ls, ∃ a, getC C l.n = some a) → hsum (applyL C ls) = hsum C + isum (ls.map fun l => l.x)
  | [], C, _, _, _ => by
    rw [apply_nil, List.map_nil, isum_nil]; omega
  | l :: ls, C, hs, hn, hg => by
    rw [List.map_cons, List.nodup_cons] at hn
    have hne : ∀ m ∈ ls, m.n ≠ l.n := fun m hm e => hn.1 (List.mem_map.2 ⟨m, hm, e⟩)
    obtain ⟨a, ha⟩ := hg l (by simp)
    have ih := apply_sum ls (C := updL C l) (upd_sorted hs l) hn.2 (fun m hm => by
      rw [get_upd_other (fun e => hne m hm e.symm)]
      exact hg m (List.mem_cons_of_mem _ hm))
    rw [← add_upd C l ls hne, ih, upd_sum hs ha, List.map_cons, isum_cons]
    omega
def byF (ls : List Lg) (s : List UInt8) : Int := match ls.find? (fun l => l.n == s) with | some l => l.x | none => 0
theorem by_snoc {ls : List Lg} {l : Lg} {s : List UInt8} (h : ((ls ++ [l]).map fun l => l.n).Nodup) : byF (ls ++ [l]) s = (if l.n = s then l.x else byF ls s) ∧ (l.n = s → byF ls s = 0) := by
  have hz : l.n = s → ls.find? (fun l => l.n == s) = none := fun e => by
    rw [List.find?_eq_none]
    intro m hm
    simp only [beq_iff_eq]
    intro hms
    rw [List.map_append, List.nodup_append] at h
    exact h.2.2 m.n (List.mem_map.2 ⟨m, hm, rfl⟩) l.n (by simp) (by rw [hms, e])
  unfold byF
  rw [List.find?_append]
  by_cases e : l.n = s
  · rw [hz e, if_pos e]
    refine ⟨?_, fun _ => rfl⟩
    rw [List.find?_cons_of_pos (by simpa using e)]; rfl
  · rw [if_neg e]
    refine ⟨?_, fun h => absurd h e⟩
    rw [List.find?_cons_of_neg (by simpa using e)]
    cases ls.find? (fun l => l.n == s) <;> rfl
theorem by_i64 {ls : List Lg} (h : ∀ l ∈ ls, LgOk l) (s : List UInt8) : I64 (byF ls s) := by
  unfold byF
  cases hf : ls.find? (fun l => l.n == s) with
  | none => unfold I64; dsimp only; omega
  | some l => exact (h l (List.mem_of_find?_eq_some hf)).2
theorem add_is (ls : List Lg) (a : Ac) : addL ls a = { a with h := a.h + byF ls a.n } := by
  unfold addL byF
  cases ls.find? (fun l => l.n == a.n) with
  | none =>
    dsimp only
    rw [Int.add_zero]
  | some l => rfl
/-- what was made, and what was not -/
theorem make_law {C : List Ac} {ls : List Lg} (hs : SortedC C) : ((makeR C ls).2 = 0 ∧ sumR (hsum (makeR C ls).1) = sumR (hsum C) ∧ (makeR C ls).1 = applyL C ls ∧ (ls.map fun l => l.n).Nodup) ∨ (((makeR C ls).2 == 0) = false ∧ (makeR C ls).1 = C) := by
  cases hr : rightB ls with
  | false => rw [make_no1 hr]; exact .inr ⟨rfl, rfl⟩
  | true =>
    cases hw : weighB ls with
    | false => rw [make_no2 hr hw]; exact .inr ⟨rfl, rfl⟩
    | true =>
      rw [make_yes hr hw]
      obtain ⟨_, hn, _⟩ := (right_iff ls).1 hr
      obtain ⟨a1, a2⟩ := all_eff ls hs hn
      by_cases h0 : (allR C ls).2 = 0
      · rw [if_neg (by omega)]
        refine .inl ⟨h0, ?_, a2 h0, hn⟩
        have hz : isum (ls.map fun l => l.x) = 0 := by unfold weighB at hw; simpa using hw
        rw [a2 h0, apply_sum ls hs hn (fun l hl => by
          obtain ⟨⟨a, ha, _⟩, _⟩ := post_eff hs (a1.1 h0 l hl)
          exact ⟨a, ha⟩), hz, Int.add_zero]
      · rw [if_pos h0]
        exact .inr ⟨by simpa using h0, rfl⟩
end Go.Proofs.Ytaohgefpnndjcaa
/-
  The reference's Check.
-/
namespace Go.Proofs.Ytaohgefpnndjcaa
set_option linter.unusedVariables false
open Go.RowKit
theorem check_first {C : List Ac} {ls : List Lg} (ho : OkC C) (hs : SortedC C) (h : rightB ls = true) : (allR C ls).2 = firstE (checkE C) ls := by
  obtain ⟨_, hn, _⟩ := (right_iff ls).1 h
  rw [all_first ls hs hn]
  exact firstE_congr fun l _ => check_post ho l
def CkRel (w : World) (q B : Nat) (C : List Ac) (ls : List Lg) (j : Nat) (wr : World) : Prop := firstE (checkE C) ls = firstE (checkE C) (ls.drop j) ∧ RefAt wr q B C ∧ Mod none_ w wr
set_option maxRecDepth 100000 in
set_option maxHeartbeats 4000000 in
theorem rcheck_ok (w : World) (q B : Nat) (C : List Ac) (A : Option Addr) (n c : Nat) (ls : List Lg) (hR : RefAt w q B C) (oC : OkC C) (hs : SortedC C) (h : RdL w A n ls) (hn : n ≤ 1000) (hz : ∀ l ∈ ls, LgOk l) :
    Calls Try.prog 13 #[.pointer (some ⟨q, 0, none⟩), .slice A n c] w fun e w' => e = .returned (.int .i64 (checkR C ls)) ∧ Mod none_ w w' := by
  have hl := h.len
  have hin : I64s (ls.map fun l : Lg => l.x) := by
    intro y hy
    obtain ⟨a, ha, rfl⟩ := List.mem_map.1 hy
    exact (hz a ha).2
  have c0 := Lib.hid (rright_ok w A n c ls h hn hz)
  have hC12 := oC.2
  unfold checkR
  cases hrt : rightB ls with
  | false =>
    rw [hrt] at c0
    rw [if_pos rfl]
    replace h := Lib.hid h
    replace hz := Lib.hid hz
    replace hR := Lib.hid hR
    replace oC := Lib.hid oC
    replace hin := Lib.hid hin
    replace hs := Lib.hid hs
    replace hrt := Lib.hid hrt
    go_enter Try.func13, Try.ntmps13
    go_wp2_with fail
    refine c0.out.mono ?_
    rintro e w1 ⟨rfl, kx, rfl⟩
    dsimp only
    go_wp2_with fail
    go_ret
    exact ⟨rfl, (Mod.refl _ _).drewN _⟩
  | true =>
    rw [hrt] at c0
    rw [if_neg (by simp), check_first oC hs hrt]
    obtain ⟨res, hres⟩ : ∃ r, (if weighB ls = false then (8 : Int) else firstE (checkE C) ls) = r := ⟨_, rfl⟩
    rw [hres]
    replace h := Lib.hid h
    replace hz := Lib.hid hz
    replace hR := Lib.hid hR
    replace oC := Lib.hid oC
    replace hin := Lib.hid hin
    replace hs := Lib.hid hs
    replace hrt := Lib.hid hrt
    replace hres := Lib.hid hres
    go_enter Try.func13, Try.ntmps13
    go_wp2_with fail
    refine c0.out.mono ?_
    rintro e w1 ⟨rfl, kx, rfl⟩
    dsimp only
    go_wp2_with fail
    go_loopw [5, 6] (fun v x wr => ∃ j : Nat, x = .int .i64 j ∧ j ≤ n ∧ ∃ A' c', v = .slice A' j c' ∧ OwI wr A' j c' ((ls.map fun l : Lg => l.x).take j) ∧ Fresh w A' ∧ Mod none_ w wr) (fun _ x _ => n - (intOf x).toNat)
    case atStart => exact ⟨0, rfl, by omega, none, 0, rfl, Ow.nil _ _ _, (fun _ h => by cases h), (Mod.refl _ _).drewN _⟩
    case round =>
      obtain ⟨j, rfl, hj, A', c', rfl, how, hf, hm⟩ := hrel
      by_cases hlt : j < n
      · obtain ⟨g, o, l, rfl, hmem, hjl, y1, y2⟩ := rdl_get (h.out.mod0 hm) hlt
        have hnx : ((ls.map fun l : Lg => l.x).take j) ++ [l.x] = ((ls.map fun l : Lg => l.x).take (j+1)) := by
          have hjlt : j < ls.length := by omega
          rw [List.getElem?_eq_getElem hjlt] at hjl
          injection hjl with hjl
          rw [List.take_succ_eq_append_getElem (by simpa using hjlt), List.getElem_map, hjl]
        have hgl := World.block_lt_of_cell? wr _ y2
        obtain ⟨x, hx⟩ : ∃ x, l.x = x := ⟨_, rfl⟩
        rw [hx] at y2 hnx
        replace how := Lib.hid how
        replace hf := Lib.hid hf
        replace hm := Lib.hid hm
        replace hnx := Lib.hid hnx
        replace hmem := Lib.hid hmem
        replace hjl := Lib.hid hjl
        replace hx := Lib.hid hx
        go_wp2_with (at_builtin; go_loud (refine app64 rfl (.tmp 25) (.tmp 31) rfl rfl (Ow.mod0 how.out ((Mod.refl none_ _).alloc _)) rfl (rdi_one _ _ _) (by omega) ?_; intro A2 c2 w2 ho2 hm2 hA2; replace ho2 := Lib.hid ho2; replace hm2 := Lib.hid hm2; replace hA2 := Lib.hid hA2))
        go_roundw
        case rel =>
          refine ⟨j + 1, by go_num, by omega, A2, c2, rfl, ?_, Fresh.app hf.out (hm.out.alloc _).size hA2.out, (hm.out.alloc _).app hf.out hm2.out⟩
          rw [← hnx.out]; exact ho2.out
        case measure => simp [intOf]; omega
      · have hall : ((ls.map fun l : Lg => l.x).take j) = ls.map fun l : Lg => l.x := List.take_of_length_le (by rw [List.length_map]; omega)
        rw [hall] at how
        have hjn : j ≤ 1000 := by omega
        have ct := Lib.hid (rtotal_ok wr A' j c' (ls.map fun l : Lg => l.x) (Ow.rd how) (by omega) hin.out)
        have hw : weighB ls = (decide (isum (ls.map fun l => l.x) = 0)) := rfl
        generalize isum (ls.map fun l : Lg => l.x) = t at ct hw
        unfold SPost at ct
        clear hall
        by_cases h0 : t = 0
        · subst h0
          rw [show sumR 0 = (0, 0) from rfl] at ct
          replace ct := Lib.hid (ct.out.mono (fun e w' (hp : _ ∧ _) => (⟨hp.1, hp.2⟩ : e = .returned (.tuple #[.int .i64 0, .int .i64 0]) ∧ Mod none_ wr w')))
          have hres2 := hres.out
          rw [hw, if_neg (by simp)] at hres2
          clear hres hw
          replace how := Lib.hid how
          replace hf := Lib.hid hf
          replace hm := Lib.hid hm
          go_wp2_with fail
          refine ct.out.mono ?_
          rintro e w3 ⟨rfl, hm3⟩
          dsimp only
          have hmm := Lib.hid (hm.out.trans hm3)
          clear hm3 how hf hm
          replace hres2 := Lib.hid hres2
          go_wp2_with fail
          go_loopw [9] (fun x wr2 => ∃ i : Nat, x = .int .i64 i ∧ i ≤ n ∧ CkRel w q B C ls i wr2) (fun x _ => n - (intOf x).toNat)
          case atStart => exact ⟨0, rfl, by omega, rfl, hR.out.mod0 hmm.out, hmm.out⟩
          case round =>
            obtain ⟨i, rfl, hi, hfst, hRi, hmi⟩ := hrel
            by_cases hil : i < n
            · obtain ⟨g, o, l, rfl, hmem, hjl, y1, y2⟩ := rdl_get (h.out.mod0 hmi) hil
              have hlok := hz.out l hmem
              have hgl := World.block_lt_of_cell? wr _ y1
              have hdr : ls.drop i = l :: ls.drop (i + 1) := by
                have hjlt : i < ls.length := by omega
                rw [List.getElem?_eq_getElem hjlt] at hjl
                injection hjl with hjl
                rw [List.drop_eq_getElem_cons hjlt, hjl]
              rw [hdr, show firstE (checkE C) (l :: ls.drop (i + 1)) = (if checkE C l ≠ 0 then checkE C l else firstE (checkE C) (ls.drop (i + 1))) from rfl] at hfst
              have cg := Lib.hid (rget_ok wr q B C l.n hRi (by omega))
              unfold GetPost getV at cg
              obtain ⟨ce, hce⟩ : ∃ v, checkE C l = v := ⟨_, rfl⟩
              rw [hce] at hfst
              unfold checkE at hce
              cases hg : getC C l.n with
              | none =>
                rw [hg] at cg hce
                dsimp only at hce
                subst hce
                rw [if_pos (by omega)] at hfst
                unfold zeroA at cg
                replace hRi := Lib.hid hRi
                replace hmi := Lib.hid hmi
                replace hmem := Lib.hid hmem
                replace hjl := Lib.hid hjl
                replace hlok := Lib.hid hlok
                replace hdr := Lib.hid hdr
                replace hg := Lib.hid hg
                replace hfst := Lib.hid hfst
                go_wp2_with fail
                refine cg.out.mono ?_
                rintro e w4 ⟨rfl, hm4⟩
                dsimp only
                have hmm4 := Lib.hid (hmi.out.trans hm4)
                clear hm4
                go_wp2_with fail
                go_ret
                exact ⟨by rw [← hres2.out, hfst.out]; rfl, hmm4.out.alloc _⟩
              | some a =>
                rw [hg] at cg hce
                dsimp only at hce
                unfold acV at cg
                have hwa := oC.out.wf a (getC_mem hg)
                have cl := Lib.hid (fun W => (rless_ok W 0 l.x (by unfold I64; omega) hlok.2).mono (fun e w' hp => SPost.act hp))
                have cad := Lib.hid (fun W => (radd_ok W a.h l.x hwa.1 hlok.2).mono (fun e w' hp => SPost.act hp))
                unfold APost at cl cad
                have hI1 : I64 (actR (0 - l.x)).1 := actR_i64 _
                obtain ⟨⟨r1, r2⟩, hrr⟩ : ∃ r, actR (0 - l.x) = r := ⟨_, rfl⟩
                obtain ⟨⟨s1, s2⟩, hss⟩ : ∃ r, actR (a.h + l.x) = r := ⟨_, rfl⟩
                rw [hrr] at cl hce hI1
                rw [hss] at cad hce
                dsimp only at cl cad hce hI1
                have cf := Lib.hid (fun W => rfree_ok W a r1 hwa hI1)
                obtain ⟨x, hx⟩ : ∃ x, l.x = x := ⟨_, rfl⟩
                rw [hx] at y2 cl cad
                obtain ⟨fb, hfb⟩ : ∃ v, freeB a r1 = v := ⟨_, rfl⟩
                rw [hfb] at cf hce
                unfold acV at cf
                obtain ⟨an, ah, as_, al⟩ := a
                dsimp only at cg cad cf
                replace hRi := Lib.hid hRi
                replace hmi := Lib.hid hmi
                replace hmem := Lib.hid hmem
                replace hjl := Lib.hid hjl
                replace hlok := Lib.hid hlok
                replace hdr := Lib.hid hdr
                replace hg := Lib.hid hg
                replace hfst := Lib.hid hfst
                replace hce := Lib.hid hce
                replace hrr := Lib.hid hrr
                replace hss := Lib.hid hss
                replace hx := Lib.hid hx
                replace hfb := Lib.hid hfb
                replace hwa := Lib.hid hwa
                replace hI1 := Lib.hid hI1
                go_wp2_with fail
                refine cg.out.mono ?_
                rintro e w4 ⟨rfl, hm4⟩
                dsimp only
                have y1' := hm4.cell_some y1 (fun h => h)
                have y2' := hm4.cell_some y2 (fun h => h)
                have hgl4 := World.block_lt_of_cell? w4 _ y1'
                have hmm4 := Lib.hid (hmi.out.trans hm4)
                have hB4 := Blk.new w4 46 #[.string (txt an), .int .i64 ah, .int .i64 as_, .int .i64 al]
                have z2 : (w4.alloc (.cells #[.string (txt an), .int .i64 ah, .int .i64 as_, .int .i64 al] 46)).cell? ⟨g, o + i*2 + 1, none⟩ = some (.int .i64 x) := (World.cell?_alloc_lt _ _ _ (World.block_lt_of_cell? w4 _ y2')).trans y2'
                clear hm4
                replace hB4 := Lib.hid hB4
                replace z2 := Lib.hid z2
                go_wp2_with fail
                refine (cl.out _).mono ?_
                rintro e w5 ⟨rfl, hm5⟩
                dsimp only
                have hB5 := hB4.out.mod hm5 (fun h => h)
                have b1 : w5.cell? ⟨w4.heap.size, 1, none⟩ = some (.int .i64 ah) := hB5.cell_ rfl
                have z25 : w5.cell? ⟨g, o + i*2 + 1, none⟩ = some (.int .i64 x) := hm5.cell_some z2.out (fun h => h)
                have hmm5 := Lib.hid ((hmm4.out.alloc (.cells #[.string (txt an), .int .i64 ah, .int .i64 as_, .int .i64 al] 46)).trans hm5)
                clear hm5
                replace hB5 := Lib.hid hB5
                clear y1 y2 y1' y2' hgl4
                go_upto_region 18 with fail
                go_region_held3 (fun W => W.cell? ⟨w4.heap.size, 1, none⟩ = some (.int .i64 ah) ∧ W.cell? ⟨g, o + i*2 + 1, none⟩ = some (.int .i64 x)) (first | exact ⟨b1, z25⟩ | exact ⟨hm6.cell_some b1 (fun h => h), hm6.cell_some z25 (fun h => h)⟩) ((go_at_call 40; (with_reducible refine (cad.out _).mono ?_); rintro e6 w6 ⟨rfl, hm6⟩; dsimp only))
                all_goals
                  have hB6 := hB5.out.drew.mod hm6 (fun h => h)
                  have d0 : w6.cell? ⟨w4.heap.size, 0, none⟩ = some (.string (txt an)) := hB6.cell_ rfl
                  have d1 : w6.cell? ⟨w4.heap.size, 1, none⟩ = some (.int .i64 ah) := hB6.cell_ rfl
                  have d2 : w6.cell? ⟨w4.heap.size, 2, none⟩ = some (.int .i64 as_) := hB6.cell_ rfl
                  have d3 : w6.cell? ⟨w4.heap.size, 3, none⟩ = some (.int .i64 al) := hB6.cell_ rfl
                  have hmm6 := Lib.hid ((hmm5.out.drew).trans hm6)
                  have hR6 : Hid (RefAt w6 q B C) := Lib.hid (hR.out.mod0 hmm6.out)
                  clear hm6 hB6 b1 z25
                  by_cases h2 : r2 = 0
                  · by_cases h3 : s2 = 0
                    · subst h2
                      subst h3
                      have hce2 := hce.out
                      rw [if_neg (by simp)] at hce2
                      by_cases h4 : 0 < r1
                      · have f1 : decide (0 < r1) = true := decide_eq_true h4
                        cases fb with
                        | false =>
                          rw [if_pos ⟨h4, rfl⟩] at hce2
                          subst hce2
                          have hfst2 := hfst.out
                          rw [if_pos (by omega)] at hfst2
                          replace h4 := Lib.hid h4
                          replace hfst2 := Lib.hid hfst2
                          go_wp2_with fail
                          refine (cf.out _).mono ?_
                          rintro e w7 ⟨rfl, hm7⟩
                          dsimp only
                          have hmm7 := Lib.hid (hmm6.out.trans hm7)
                          clear hm7
                          go_wp2_with fail
                          go_ret
                          exact ⟨by rw [← hres2.out, hfst2.out]; rfl, hmm7.out⟩
                        | true =>
                          rw [if_neg (by simp)] at hce2
                          subst hce2
                          have hfst2 := hfst.out
                          rw [if_neg (by simp)] at hfst2
                          replace h4 := Lib.hid h4
                          replace hfst2 := Lib.hid hfst2
                          go_wp2_with fail
                          refine (cf.out _).mono ?_
                          rintro e w7 ⟨rfl, hm7⟩
                          dsimp only
                          have hmm7 := Lib.hid (hmm6.out.trans hm7)
                          have hR7 := Lib.hid (hR6.out.mod0 hm7)
                          clear hm7
                          go_wp2_with fail
                          go_roundw
                          case rel => exact ⟨i + 1, by go_num, by omega, hfst2.out, hR7.out, hmm7.out⟩
                          case measure => simp [intOf]; omega
                      · have f1 : decide (0 < r1) = false := decide_eq_false h4
                        rw [if_neg (by rintro ⟨h, _⟩; exact h4 h)] at hce2
                        subst hce2
                        have hfst2 := hfst.out
                        rw [if_neg (by simp)] at hfst2
                        replace h4 := Lib.hid h4
                        replace hfst2 := Lib.hid hfst2
                        go_wp2_with fail
                        go_roundw
                        case rel => exact ⟨i + 1, by go_num, by omega, hfst2.out, hR6.out, hmm6.out⟩
                        case measure => simp [intOf]; omega
                    · subst h2
                      have f1 : (s2 == 0) = false := by simpa using h3
                      have hce2 := hce.out
                      rw [if_pos (.inr h3)] at hce2
                      subst hce2
                      have hfst2 := hfst.out
                      rw [if_pos (by omega)] at hfst2
                      replace h3 := Lib.hid h3
                      replace hfst2 := Lib.hid hfst2
                      go_wp2_with fail
                      go_ret
                      exact ⟨by rw [← hres2.out, hfst2.out]; rfl, hmm6.out⟩
                  · have f1 : (r2 == 0) = false := by simpa using h2
                    have hce2 := hce.out
                    rw [if_pos (.inl h2)] at hce2
                    subst hce2
                    have hfst2 := hfst.out
                    rw [if_pos (by omega)] at hfst2
                    replace h2 := Lib.hid h2
                    replace hfst2 := Lib.hid hfst2
                    go_wp2_with fail
                    go_ret
                    exact ⟨by rw [← hres2.out, hfst2.out]; rfl, hmm6.out⟩
            · have hd0 : ls.drop i = [] := List.drop_eq_nil_of_le (by omega)
              rw [hd0] at hfst
              replace hRi := Lib.hid hRi
              replace hmi := Lib.hid hmi
              replace hfst := Lib.hid hfst
              replace hd0 := Lib.hid hd0
              go_wp2_with fail
              go_ret
              exact ⟨by rw [← hres2.out, hfst.out]; rfl, hmi.out⟩
        · have hwf : weighB ls = false := by rw [hw, decide_eq_false h0]
          have hres2 := hres.out
          rw [if_pos hwf] at hres2
          clear hres hw hwf
          cases hi : inI t with
          | false =>
            rw [sumR_no hi] at ct
            replace how := Lib.hid how
            replace hf := Lib.hid hf
            replace hm := Lib.hid hm
            replace hres2 := Lib.hid hres2
            go_wp2_with fail
            refine ct.out.mono ?_
            rintro e w3 ⟨rfl, hm3⟩
            dsimp only
            have hmm := Lib.hid (hm.out.trans hm3)
            clear hm3
            go_wp2_with fail
            go_ret
            exact ⟨by rw [← hres2.out]; rfl, hmm.out⟩
          | true =>
            rw [sumR_yes hi] at ct
            have e1 : (t == 0) = false := by simpa using h0
            replace how := Lib.hid how
            replace hf := Lib.hid hf
            replace hm := Lib.hid hm
            replace hres2 := Lib.hid hres2
            replace h0 := Lib.hid h0
            go_wp2_with fail
            refine ct.out.mono ?_
            rintro e w3 ⟨rfl, hm3⟩
            dsimp only
            have hmm := Lib.hid (hm.out.trans hm3)
            clear hm3
            go_wp2_with fail
            go_ret
            exact ⟨by rw [← hres2.out]; rfl, hmm.out⟩
end Go.Proofs.Ytaohgefpnndjcaa
/-
  Legs and their mirror: together nothing. Plain.
-/
namespace Go.Proofs.Ytaohgefpnndjcaa
set_option linter.unusedVariables false
open Go.RowKit
theorem sums_app (a b : List Lg) (s : List UInt8) : sumsOf (a ++ b) s = sumsOf a s ++ sumsOf b s := by
  unfold sumsOf; rw [List.filter_append, List.map_append]
theorem sums_neg (s : List UInt8) : ∀ ls : List Lg, isum (sumsOf (ls.map negL) s) = - isum (sumsOf ls s)
  | [] => by simp [sumsOf, isum_nil]
  | l :: ls => by
    have ih := sums_neg s ls
    have e1 : sumsOf ((l :: ls).map negL) s = if l.n = s then (-l.x) :: sumsOf (ls.map negL) s else sumsOf (ls.map negL) s := by
      unfold sumsOf
      rw [List.map_cons]
      by_cases e : l.n = s
      · rw [if_pos e, List.filter_cons_of_pos (by simpa [negL] using e)]; rfl
      · rw [if_neg e, List.filter_cons_of_neg (by simpa [negL] using e)]
    have e2 : sumsOf (l :: ls) s = if l.n = s then l.x :: sumsOf ls s else sumsOf ls s := by
      unfold sumsOf
      by_cases e : l.n = s
      · rw [if_pos e, List.filter_cons_of_pos (by simpa using e)]; rfl
      · rw [if_neg e, List.filter_cons_of_neg (by simpa using e)]
    rw [e1, e2]
    by_cases e : l.n = s
    · rw [if_pos e, if_pos e, isum_cons, isum_cons, ih]; omega
    · rw [if_neg e, if_neg e, ih]
/-- legs and their mirror: every name's sum is 0 -/
theorem mirror_zero (ls : List Lg) (s : List UInt8) : isum (sumsOf (ls ++ ls.map negL) s) = 0 := by
  rw [sums_app, isum_append, sums_neg]; omega
theorem out_none (ls : List Lg) (N : List (List UInt8)) : outL (ls ++ ls.map negL) N = [] := by
  unfold outL
  have : N.filter (fun s => !(isum (sumsOf (ls ++ ls.map negL) s) == 0)) = [] := by
    rw [List.filter_eq_nil_iff]
    intro s _
    rw [mirror_zero]; simp
  rw [this]; rfl
theorem neg_neg (ls : List Lg) : (ls.map negL).map negL = ls := by
  rw [List.map_map]
  conv => rhs; rw [← List.map_id ls]
  refine List.map_congr_left fun l _ => ?_
  obtain ⟨n, x⟩ := l
  show (⟨n, - -x⟩ : Lg) = ⟨n, x⟩
  rw [Int.neg_neg]
theorem by_neg (ls : List Lg) (s : List UInt8) : byF (ls.map negL) s = - byF ls s := by
  unfold byF
  rw [List.find?_map]
  have e : (fun l : Lg => l.n == s) ∘ negL = fun l => l.n == s := rfl
  rw [e]
  cases ls.find? (fun l => l.n == s) with
  | none => rfl
  | some l => rfl
theorem apply_back (C : List Ac) (ls : List Lg) : applyL (applyL C ls) (ls.map negL) = C := by
  unfold applyL
  rw [List.map_map]
  conv => rhs; rw [← List.map_id C]
  refine List.map_congr_left fun a _ => ?_
  show addL (ls.map negL) (addL ls a) = a
  rw [add_is, add_is]
  dsimp only
  rw [by_neg]
  obtain ⟨n, h, s, l⟩ := a
  dsimp only
  congr 1
  omega
theorem get_apply {C : List Ac} {ls : List Lg} {s : List UInt8} {a : Ac} (h : getC C s = some a) : getC (applyL C ls) s = some (addL ls a) := by
  have hn : ∀ b : Ac, (addL ls b).n = b.n := fun b => by rw [add_is]
  unfold getC applyL at *
  rw [List.find?_map]
  have e : (fun a : Ac => a.n == s) ∘ addL ls = fun a => a.n == s := by funext b; show ((addL ls b).n == s) = _; rw [hn]
  rw [e, h]; rfl
theorem firstE_two {f : Lg → Int} : ∀ {ls : List Lg}, (∀ l ∈ ls, f l = 0 ∨ f l = 9) → firstE f ls = 0 ∨ firstE f ls = 9
  | [], _ => .inl rfl
  | l :: ls, h => by
    unfold firstE
    rcases h l (by simp) with h0 | h0
    · rw [if_neg (by omega)]; exact firstE_two fun m hm => h m (List.mem_cons_of_mem _ hm)
    · rw [if_pos (by omega)]; exact .inr h0
theorem apply_sorted {C : List Ac} (h : SortedC C) (ls : List Lg) : SortedC (applyL C ls) := by
  have e : (applyL C ls).map (fun a => a.n) = C.map (fun a => a.n) := by
    unfold applyL
    rw [List.map_map]
    refine List.map_congr_left fun a _ => ?_
    show (addL ls a).n = a.n
    rw [add_is]
  have h1 : ((applyL C ls).map fun a => a.n).Pairwise fun a b => bytesBefore a b = true := by
    rw [e, List.pairwise_map]; exact h
  rwa [List.pairwise_map] at h1
theorem neg_names (ls : List Lg) : (ls.map negL).map (fun l => l.n) = ls.map (fun l => l.n) := by
  rw [List.map_map]; rfl
theorem neg_sum : ∀ ls : List Lg, isum ((ls.map negL).map fun l => l.x) = - isum (ls.map fun l => l.x)
  | [] => by simp [isum_nil]
  | l :: ls => by
    have ih := neg_sum ls
    rw [List.map_cons, List.map_cons, List.map_cons, isum_cons, isum_cons, ih]
    show -l.x + _ = _
    omega
theorem right_neg {ls : List Lg} (h : rightB ls = true) : rightB (ls.map negL) = true := by
  obtain ⟨a, b, c, d⟩ := (right_iff ls).1 h
  refine (right_iff _).2 ⟨?_, by rw [neg_names]; exact b, by rw [List.length_map]; exact c, by rw [List.length_map]; exact d⟩
  intro m hm
  obtain ⟨l, hl, rfl⟩ := List.mem_map.1 hm
  have := a l hl
  unfold okLeg at this ⊢
  simp only [Bool.and_eq_true, Bool.not_eq_true', beq_eq_false_iff_ne] at this ⊢
  refine ⟨this.1, ?_⟩
  show -l.x ≠ 0
  have := this.2
  omega
theorem by_mem {ls : List Lg} (hn : (ls.map fun l => l.n).Nodup) {l : Lg} (hl : l ∈ ls) : byF ls l.n = l.x := by
  unfold byF
  cases hf : ls.find? (fun m => m.n == l.n) with
  | none =>
    have := List.find?_eq_none.1 hf l hl
    simp at this
  | some m =>
    have h1 := List.mem_of_find?_eq_some hf
    have h2 : m.n = l.n := by simpa using List.find?_some hf
    rw [uniq_l hn h1 hl h2]
/-- what was made is given back, or the account owes -/
theorem back_make {C : List Ac} {ls : List Lg} (hs : SortedC C) (ho : OkC C) (hz : ∀ l ∈ ls, LgOk l) (h : (makeR C ls).2 = 0) :
    ((makeR (makeR C ls).1 (ls.map negL)).2 = 0 ∧ (makeR (makeR C ls).1 (ls.map negL)).1 = C) ∨ (makeR (makeR C ls).1 (ls.map negL)).2 = 9 := by
  cases hr : rightB ls with
  | false => rw [make_no1 hr] at h; dsimp only at h; omega
  | true =>
    cases hw : weighB ls with
    | false => rw [make_no2 hr hw] at h; dsimp only at h; omega
    | true =>
      have hoC1 := make_okc ho ls
      rw [make_yes hr hw] at h hoC1 ⊢
      by_cases h0 : (allR C ls).2 = 0
      · rw [if_neg (by omega)] at hoC1 ⊢
        obtain ⟨_, hn, _⟩ := (right_iff ls).1 hr
        obtain ⟨a1, a2⟩ := all_eff ls hs hn
        have hp := a1.1 h0
        rw [a2 h0] at hoC1 ⊢
        have hs1 := apply_sorted hs ls
        have hr2 := right_neg hr
        have hw2 : weighB (ls.map negL) = true := by
          unfold weighB at hw ⊢
          rw [neg_sum]
          have : isum (ls.map fun l => l.x) = 0 := by simpa using hw
          rw [this]; rfl
        have hn2 : ((ls.map negL).map fun l => l.n).Nodup := by rw [neg_names]; exact hn
        obtain ⟨b1, b2⟩ := all_eff (ls.map negL) hs1 hn2
        have hE : ∀ m ∈ ls.map negL, checkE (applyL C ls) m = 0 ∨ checkE (applyL C ls) m = 9 := by
          intro m hm
          obtain ⟨l, hl, rfl⟩ := List.mem_map.1 hm
          obtain ⟨⟨a, ha, hI⟩, _⟩ := post_eff hs (hp l hl)
          have hg := get_apply (ls := ls) ha
          have hax : addL ls a = { a with h := a.h + l.x } := by rw [add_is, getC_name ha, by_mem hn hl]
          rw [hax] at hg
          unfold checkE
          rw [show (negL l).n = l.n from rfl, hg]
          dsimp only
          have hx := (hz l hl).2
          have e1 : actR (0 - (negL l).x) = (l.x, 0) := by
            rw [show 0 - (negL l).x = l.x by show 0 - -l.x = l.x; omega]
            exact act_yes (inI_of hx)
          have e2 : actR (a.h + l.x + (negL l).x) = (a.h, 0) := by
            rw [show a.h + l.x + (negL l).x = a.h by show a.h + l.x + -l.x = a.h; omega]
            exact act_yes (inI_of (ho.wf a (getC_mem ha)).1)
          rw [e1, e2, if_neg (by simp)]
          split
          · exact .inr rfl
          · exact .inl rfl
        have hfin := check_first hoC1 hs1 hr2
        rw [make_yes hr2 hw2]
        rcases firstE_two hE with h9 | h9
        · rw [← hfin] at h9
          rw [if_neg (by omega)]
          exact .inl ⟨h9, by rw [b2 h9]; exact apply_back C ls⟩
        · rw [← hfin] at h9
          rw [if_pos (by omega)]
          exact .inr h9
      · rw [if_pos h0] at h; exact absurd h h0
end Go.Proofs.Ytaohgefpnndjcaa
/-
  Lists of lists of legs: as an argument, and one that the call makes.
-/
namespace Go.Proofs.Ytaohgefpnndjcaa
set_option linter.unusedVariables false
open Go.ChangeShapes Go.WideShapes Go.ChangeAt Go.RowKit Go.Deep
def LLs (w : World) (A : Option Addr) (n : Nat) (ss : List SV) (lls : List (List Lg)) : Prop :=
  Rd w 1 A n (ss.map SV.v) ∧ ss.length = lls.length ∧ ∀ (i : Nat) (s : SV) (l : List Lg), ss[i]? = some s → lls[i]? = some l → RdL w s.a s.n l ∧ s.n ≤ s.c ∧ ∀ x ∈ l, LgOk x
theorem LLs.len {w : World} {A : Option Addr} {n : Nat} {ss : List SV} {lls : List (List Lg)} (h : LLs w A n ss lls) : lls.length = n := by
  have h1 := h.1.1
  rw [List.length_map] at h1
  have := h.2.1
  omega
theorem LLs.mod0 {w w' : World} {A : Option Addr} {n : Nat} {ss : List SV} {lls : List (List Lg)} (h : LLs w A n ss lls) (hm : Mod none_ w w') : LLs w' A n ss lls :=
  ⟨Rd.mod0 h.1 hm, h.2.1, fun i s l hs hl => ⟨(h.2.2 i s l hs hl).1.mod0 hm, (h.2.2 i s l hs hl).2⟩⟩
theorem LLs.get {w : World} {A : Option Addr} {n : Nat} {ss : List SV} {lls : List (List Lg)} (h : LLs w A n ss lls) {j : Nat} (hj : j < n) :
    ∃ b o B k c l, A = some ⟨b, o, none⟩ ∧ w.cell? ⟨b, o + j, none⟩ = some (.slice B k c) ∧ lls[j]? = some l ∧ RdL w B k l ∧ k ≤ c ∧ ∀ x ∈ l, LgOk x := by
  obtain ⟨b, o, e, hc⟩ := Rd.form h.1 (show 0 < n by omega) (by omega)
  have hl := h.len
  have hs := h.2.1
  have hjs : j < ss.length := by omega
  have hjl : j < lls.length := by omega
  have h1 := hc j (.slice ss[j].a ss[j].n ss[j].c) (by rw [List.getElem?_map, List.getElem?_eq_getElem hjs]; rfl)
  have h2 := h.2.2 j ss[j] lls[j] (List.getElem?_eq_getElem hjs) (List.getElem?_eq_getElem hjl)
  exact ⟨b, o, ss[j].a, ss[j].n, ss[j].c, lls[j], e, h1, List.getElem?_eq_getElem hjl, h2.1, h2.2.1, h2.2.2⟩
set_option maxRecDepth 100000 in
theorem open_llegs {H : Type} {enc : TypeId × Value → H} {w : World} {held : Bool} {fuel : Nat} {cs : List Value} {x : DataW H × List MemPlace}
    (h : DataW.trod enc Try.prog w 0 (fun _ => true) held fuel 47 cs = some x) (hw : Wd Try.prog 47 x.1) :
    ∃ (A : Option Addr) (n c : Nat) (ss : List SV) (lls : List (List Lg)), cs = [.slice A n c] ∧ n ≤ c ∧ LLs w A n ss lls := by
  obtain ⟨A, n, c, css, D, rfl, hc, hi⟩ := open_any Try.underlying47 (by kernel_rfl : Try.prog.cellsOf 23 = 1) (by omega) h hw
  have hch : ∀ i, i < n → ∃ e : SV × List Lg, css i = [e.1.v] ∧ RdL w e.1.a e.1.n e.2 ∧ e.1.n ≤ e.1.c ∧ ∀ x ∈ e.2, LgOk x := by
    intro i hin
    obtain ⟨_, hwd, m, pl, htr⟩ := hi i hin
    obtain ⟨B, k, d, l, hcs, h1, h2, h3⟩ := open_legs htr hwd
    exact ⟨(⟨B, k, d⟩, l), hcs, h1, h2, h3⟩
  obtain ⟨es, hl, hz⟩ := list_choice _ n hch
  have e1 : (List.range n).flatMap css = (es.map (·.1)).map SV.v := by
    rw [← hl, flat_range (fun e : SV × List Lg => [e.1.v]) css es fun i e hie => (hz i e hie).1]
    clear hz hl
    induction es with
    | nil => rfl
    | cons z zs ih => simp [List.flatMap_cons, ih]
  rw [e1] at hc
  refine ⟨A, n, c, es.map (·.1), es.map (·.2), rfl, hc.2.1, hc.1, by simp, fun i s l hs hl2 => ?_⟩
  rw [List.getElem?_map] at hs hl2
  cases he : es[i]? with
  | none => rw [he] at hs; cases hs
  | some e =>
    rw [he] at hs hl2
    cases hs; cases hl2
    exact (hz i e he).2
/-- a list of lists of legs that the call makes -/
def LLOwn (w : World) (G : Option Addr) (m c : Nat) (ss : List SV) (lls : List (List Lg)) : Prop :=
  Ow w 23 1 G m c (ss.map SV.v) ∧ ss.length = lls.length ∧ ∀ (i : Nat) (s : SV) (l : List Lg), ss[i]? = some s → lls[i]? = some l → RdL w s.a s.n l ∧ s.n ≤ 8 ∧ (0 < s.n → ∀ k, fp s.a k → ¬ fp G k)
section
variable {w w' : World} {G : Option Addr} {m c : Nat} {ss : List SV} {lls : List (List Lg)}
theorem LLOwn.nil (w : World) : LLOwn w none 0 0 [] [] := ⟨Ow.nil _ _ _, rfl, fun i s l hs _ => by simp at hs⟩
theorem LLOwn.len (h : LLOwn w G m c ss lls) : lls.length = m := by
  have := h.1.1
  rw [List.length_map] at this
  rw [← h.2.1]; omega
theorem LLOwn.mod0 (h : LLOwn w G m c ss lls) (hm : Mod none_ w w') : LLOwn w' G m c ss lls :=
  ⟨h.1.mod0 hm, h.2.1, fun i s l hs hl => ⟨(h.2.2 i s l hs hl).1.mod0 hm, (h.2.2 i s l hs hl).2⟩⟩
theorem LLOwn.at (h : LLOwn w G m c ss lls) : LegsAt w G m ss lls :=
  ⟨Ow.rd h.1, h.2.1, fun i s l hs hl => ⟨(h.2.2 i s l hs hl).1, by have := (h.2.2 i s l hs hl).2.1; omega⟩⟩
theorem LLOwn.flat (h : LLOwn w G m c ss lls) : lls.flatten.length ≤ 8 * m := by
  have h1 : ∀ l ∈ lls, l.length ≤ 8 := by
    intro l hl
    obtain ⟨i, hi1, hi2⟩ := List.getElem_of_mem hl
    have hi3 : i < ss.length := by rw [h.2.1]; exact hi1
    have := h.2.2 i ss[i] l (List.getElem?_eq_getElem hi3) (by rw [List.getElem?_eq_getElem hi1, hi2])
    rw [this.1.len]; exact this.2.1
  have h2 := h.len
  clear h
  subst h2
  induction lls with
  | nil => simp
  | cons l lls ih =>
    have := ih fun l hl => h1 l (List.mem_cons_of_mem _ hl)
    have := h1 l (by simp)
    simp only [List.flatten_cons, List.length_append, List.length_cons] at *
    omega
theorem LLOwn.push (h : LLOwn w G m c ss lls) {s : SV} {l : List Lg} (h1 : RdL w s.a s.n l) (h2 : s.n ≤ 8) (h3 : 0 < s.n → ∀ k, fp s.a k → ¬ fp G k) {w1 : World} {G' : Option Addr} {c' : Nat} (hown : Ow w1 23 1 G' (m + 1) c' (ss.map SV.v ++ [s.v]))
    (hm : Mod (fp G) w w1) (hA : G' = G ∨ ∃ g, G' = some ⟨g, 0, none⟩ ∧ w.heap.size ≤ g) : LLOwn w1 G' (m + 1) c' (ss ++ [s]) (lls ++ [l]) := by
  have key : ∀ (s : SV) (l : List Lg), RdL w s.a s.n l → s.n ≤ 8 → (0 < s.n → ∀ k, fp s.a k → ¬ fp G k) → RdL w1 s.a s.n l ∧ s.n ≤ 8 ∧ (0 < s.n → ∀ k, fp s.a k → ¬ fp G' k) := by
    intro s l ht h8 hG
    refine ⟨ht.mod' hm fun h0 k hk hf => hG h0 k hk hf, h8, fun h0 k hk => ?_⟩
    have q1 := rdl_lt ht h0 k hk
    rcases hA with rfl | ⟨g, rfl, hg⟩
    · exact hG h0 k hk
    · rintro ⟨a, ha, rfl⟩
      cases ha
      simp only at q1
      omega
  refine ⟨by simpa using hown, by simp [h.2.1], fun i s' l' hs hl => ?_⟩
  by_cases hi : i < ss.length
  · rw [List.getElem?_append_left hi] at hs
    rw [List.getElem?_append_left (by rw [← h.2.1]; exact hi)] at hl
    obtain ⟨a1, a2, a3⟩ := h.2.2 i s' l' hs hl
    exact key _ _ a1 a2 a3
  · rw [List.getElem?_append_right (by omega)] at hs
    rw [List.getElem?_append_right (by rw [← h.2.1]; omega), ← h.2.1] at hl
    have e : i - ss.length = 0 := by
      rcases Nat.lt_or_ge (i - ss.length) 1 with h5 | h5
      · omega
      · rw [List.getElem?_eq_none (by simpa using h5)] at hs; cases hs
    rw [e] at hs hl
    simp at hs hl
    subst hs hl
    exact key _ _ h1 h2 h3
end
def zeroS : Value := .slice none 0 0
theorem slinfo : (Try.prog.info? 23).map (fun i => (i.zero, i.size, i.bytes)) = some (some zeroS, 1, 24) := by kernel_rfl
theorem svs_one (ss : List SV) : ∀ u ∈ ss.map SV.v, u.oneCell' = true := by
  intro u hu
  obtain ⟨s, _, rfl⟩ := List.mem_map.1 hu
  rfl
theorem appLL {w : World} {ops : Array Oper} {rest : List Oper} {o : Oper} {a : Act} {Q : Exit → Act → World → Prop} (hgd : o.guard = none) (s x : Operand)
    (ho : o.op = .call { callee := .builtin .append, args := #[s, x], argTypes := #[47, 47] })
    {A : Option Addr} {n c : Nat} {xs : List SV} (hs : a.eval s = .slice A n c) (hown : Ow w 23 1 A n c (xs.map SV.v))
    {S : Option Addr} {m d : Nat} {news : List SV} (hx : a.eval x = .slice S m d) (hr : Rd w 1 S m (news.map SV.v)) (hb : (n + m) * 24 ≤ 140737488355328)
    (h : ∀ A' c' w', Ow w' 23 1 A' (n + m) c' (xs.map SV.v ++ news.map SV.v) → Mod (fp A) w w' → (A' = A ∨ A' = some ⟨w.heap.size, 0, none⟩) → wpList Try.prog ops Q rest (a.put o.dst (.slice A' (n + m) c')) w') : wpList Try.prog ops Q (o :: rest) a w := by
  obtain ⟨i0, hi, hz0, hz1, hz2⟩ := info_parts slinfo
  refine wpList_append_ow hgd s x 47 ho 23 i0 _ 1 24 Try.underlying47 hi hz0 hz1 hz2 rfl (by omega) A n c (xs.map SV.v) hs hown S m d (news.map SV.v) hx hr (svs_one _) (by omega) (by omega) ?_
  intro A' c' w' h1
  exact h A' c' w' h1
theorem step_appLL {w : World} {ops : Array Oper} {o : Oper} {a : Act} {K : Act → World → Prop} {Q : Exit → Act → World → Prop} {E : Prop} (hgd : o.guard = none) (s x : Operand)
    (ho : o.op = .call { callee := .builtin .append, args := #[s, x], argTypes := #[47, 47] })
    {A : Option Addr} {n c : Nat} {xs : List SV} (hs : a.eval s = .slice A n c) (hown : Ow w 23 1 A n c (xs.map SV.v))
    {S : Option Addr} {m d : Nat} {news : List SV} (hx : a.eval x = .slice S m d) (hr : Rd w 1 S m (news.map SV.v)) (hb : (n + m) * 24 ≤ 140737488355328)
    (h : ∀ A' c' w', Ow w' 23 1 A' (n + m) c' (xs.map SV.v ++ news.map SV.v) → Mod (fp A) w w' → (A' = A ∨ A' = some ⟨w.heap.size, 0, none⟩) → K (a.put o.dst (.slice A' (n + m) c')) w') :
    if Region.wanted o (yielded ops a.tmps) = true then Oper.wp Try.prog o a w K Q else E := by
  obtain ⟨i0, hi, hz0, hz1, hz2⟩ := info_parts slinfo
  refine step_append_ow hgd s x 47 ho 23 i0 _ 1 24 Try.underlying47 hi hz0 hz1 hz2 rfl (by omega) A n c (xs.map SV.v) hs hown S m d (news.map SV.v) hx hr (svs_one _) (by omega) (by omega) ?_
  intro A' c' w' h1
  exact h A' c' w' h1
theorem rds_one (w : World) (g : Nat) (hg : g = w.heap.size) (e : TypeId) (s : SV) : Rd (w.alloc (.cells #[.slice s.a s.n s.c] e)) 1 (some ⟨g, 0, none⟩) 1 ([s].map SV.v) := by
  subst hg
  exact rdn w e 1 1 w.heap.size #[.slice s.a s.n s.c] (0, 0) rfl rfl
theorem rds_two (w : World) (g : Nat) (hg : g = w.heap.size) (e : TypeId) (A B : Option Addr) (n m c d : Nat) : Rd (w.alloc (.cells #[.slice A n c, .slice B m d] e)) 1 (some ⟨g, 0, none⟩) 2 [.slice A n c, .slice B m d] := by
  subst hg
  exact rdn w e 1 2 w.heap.size #[.slice A n c, .slice B m d] (0, 0) rfl rfl
end Go.Proofs.Ytaohgefpnndjcaa
