/-
  Contracts of frame.Wrap and of the statements' own 'early', 'few'. No condition.
-/
import Derived.Test.YtameeeblhllemaaFrm
import Derived.Test.YtameeeblhllemaaLst
import Derived.Deep.RegionLaw
import Derived.Deep.DeepCutAuto
namespace Go.Proofs.Ytameeeblhllemaa
open Go.RowKit

theorem early_ok (w : World) (A : Option Addr) (n c : Nat) (hn : n ≤ c) (_hc : c ≤ 140737488351232) : Calls Try.prog 10 #[.slice A n c] w fun e w' => e = .returned (.slice A (min n 5000) c) ∧ w = w' := by
  have e1 : (min (n : Int) 5000).toNat = min n 5000 := by omega
  have e2 := Lib.hid e1
  clear e1
  go_enter Try.func10, Try.ntmps10
  go_wp2
  go_ret
  refine ⟨?_, rfl⟩
  rw [← e2.out]
  rfl

def cutL (ls : List (List UInt8)) (j : Nat) : List (List UInt8) := (ls.take j).map (·.take 300)
def FewRel (w : World) (ls : List (List UInt8)) (j : Nat) (v : Value) (wr : World) : Prop :=
  ∃ LA c ss, v = .slice LA j c ∧ Lst wr LA j c ss (cutL ls j) ∧ (∀ k, fp LA k → w.heap.size ≤ k) ∧ Mod none_ w wr ∧ j ≤ 20

set_option maxHeartbeats 1000000 in
theorem few_ok (w : World) (A : Option Addr) (n d : Nat) (ss : List SV) (ls : List (List UInt8)) (h : RdL w A n ss ls) (_hd : n ≤ d) (hlt : ∀ (i : Nat) (s : SV), ss[i]? = some s → 0 < s.n → ∀ k, fp s.a k → k < w.heap.size) :
    Calls Try.prog 11 #[.slice A n d] w fun e w' => ∃ v, e = .returned v ∧ FewRel w ls (min n 20) v w' := by
  obtain ⟨i0, hi, hz0, hz1, hz2⟩ := info_parts slinfo
  have H := Lib.hid h
  have Hlt := Lib.hid hlt
  clear h hlt
  go_enter Try.func11, Try.ntmps11
  go_wp2_with fail
  go_loopw [3, 4] (fun v i wr => ∃ j : Nat, i = .int .i64 j ∧ FewRel w ls j v wr ∧ j ≤ n) (fun _ i _ => n - (intOf i).toNat)
  case atStart => exact ⟨0, rfl, ⟨none, 0, [], rfl, Lst.nil w, (fun k hk => by obtain ⟨a, ha, _⟩ := hk; cases ha), Mod.refl _ w, Nat.zero_le _⟩, Nat.zero_le _⟩
  case round =>
    obtain ⟨j, rfl, ⟨LA, c, ts, rfl, hL, hLA, hm, hj⟩, hjn⟩ := hrel
    by_cases q1 : j < n
    · by_cases q2 : j < 20
      · have hr : RdL wr A n ss ls := ⟨H.out.1.mod0 hm, H.out.2.1, fun i s l hs hl => ⟨Rd.mod0 (H.out.2.2 i s l hs hl).1 hm, (H.out.2.2 i s l hs hl).2⟩⟩
        obtain ⟨b, o, s, l, rfl, hs, hl, hcell, hrb, hsn, hsc⟩ := hr.at_ q1
        have hfr := Hlt.out j s hs
        obtain ⟨Sa, Sn, Sc⟩ := s
        simp only at hcell hrb hsn hsc hfr
        have ht : Txt1 (wr.drew.alloc (.cells #[.slice Sa (min (Sn : Int) 300).toNat Sc] 22)) LA ⟨Sa, (min (Sn : Int) 300).toNat, Sc⟩ (l.take 300) := by
          have e1 : (min (Sn : Int) 300).toNat = min Sn 300 := by omega
          rw [e1]
          refine ⟨?_, by show min Sn 300 ≤ Sc; omega, hsc, fun h0 k hk => ?_⟩
          · have := rdb_take hrb (k := min Sn 300) (by omega)
            have e2 : l.take (min Sn 300) = l.take 300 := by
              rw [← hrb.len]
              rcases Nat.le_total l.length 300 with h1 | h1
              · rw [Nat.min_eq_left h1, List.take_of_length_le (Nat.le_refl _), List.take_of_length_le h1]
              · rw [Nat.min_eq_right h1]
            rw [e2] at this
            exact Rd.alloc this _
          · have h2 := hfr (by simp only at h0; omega) k hk
            refine ⟨by have := hm.size; simp; omega, fun hf => ?_⟩
            have := hLA k hf
            omega
        have hcut : cutL ls (j + 1) = cutL ls j ++ [l.take 300] := by
          unfold cutL
          rw [List.take_add_one, hl, List.map_append]; rfl
        replace hcut := Lib.hid hcut
        replace ht := Lib.hid ht
        replace hL := Lib.hid hL
        replace hLA := Lib.hid hLA
        replace hm := Lib.hid hm
        have z1 : (0 : Int) ≤ (j : Int) := by omega
        have z2 : (j : Int) < (n : Int) := by omega
        have z3 : (0 : Int) ≤ min (Sn : Int) 300 := by omega
        have z4 : min (Sn : Int) 300 ≤ (Sc : Int) := by omega
        clear hr hs hl hrb hfr
        go_upto_region 5 with fail
        go_region_law ((refine step_append_ow (by rfl) (.tmp 15) (.tmp 27) 23 (by rfl) 22 i0 _ 1 24 Try.underlying23 hi hz0 hz1 hz2 rfl (by omega) LA j c (ts.map SV.v) (by rfl) (hL.out.1.mod0 ((Mod.refl none_ wr).drew.alloc _)) (some ⟨wr.heap.size, 0, none⟩) 1 1 [.slice Sa (min (Sn : Int) 300).toNat Sc] (by rfl) (rdn wr.drew _ 1 1 _ _ (0, 0) rfl rfl) (by simp [Value.oneCell']) (by omega) (by omega) ?_; intro A5 c5 w5 hown5 hmod5 hA5))
        all_goals
          have hA5' : A5 = LA ∨ ∃ g, A5 = some ⟨g, 0, none⟩ ∧ (wr.drew.alloc (.cells #[.slice Sa (min (Sn : Int) 300).toNat Sc] 22)).heap.size ≤ g := by
            rcases hA5 with h | h
            · exact .inl h
            · exact .inr ⟨_, h, by simp⟩
          have hL6 := (hL.out.mod0 ((Mod.refl none_ wr).drew.alloc _)).push ht.out hown5 hmod5 hA5'
          rw [← hcut.out] at hL6
          have hLA6 : ∀ i, fp A5 i → w.heap.size ≤ i := by
            rintro i ⟨a, ha, rfl⟩
            rcases hA5 with rfl | rfl
            · exact hLA.out _ ⟨a, ha, rfl⟩
            · cases ha; have := hm.out.size; simp; omega
          have hm6 : Mod none_ w w5 := (hm.out.drew.alloc _).then hmod5 fun i hi hf => by have := hLA.out i hf; omega
          have hnext : FewRel w ls (j + 1) (.slice A5 (j + 1) c5) w5 := ⟨A5, c5, _, rfl, hL6, hLA6, hm6, q2⟩
          replace hnext := Lib.hid hnext
          clear hL6 hLA6 hm6 hA5 hA5' hown5 hmod5
          go_wp2
          go_roundw
          case rel => exact ⟨j + 1, by go_num, hnext.out, by omega⟩
          case measure => simp [intOf]; omega
      · obtain rfl : j = 20 := by omega
        have hend : FewRel w ls (min n 20) (.slice LA 20 c) wr := by
          rw [Nat.min_eq_right (by omega)]
          exact ⟨LA, c, ts, rfl, hL, hLA, hm, hj⟩
        replace hend := Lib.hid hend
        clear hL hLA hm
        go_wp2
        go_ret
        exact ⟨_, rfl, hend.out⟩
    · have hj2 : j = n := by omega
      have hend : FewRel w ls (min n 20) (.slice LA j c) wr := by
        rw [Nat.min_eq_left (by omega), ← hj2]
        exact ⟨LA, c, ts, rfl, hL, hLA, hm, hj⟩
      replace hend := Lib.hid hend
      clear hL hLA hm hj2
      go_wp2
      go_ret
      exact ⟨_, rfl, hend.out⟩

/-- Many frames. -/
def okL (l : List UInt8) : Prop := 1 ≤ l.length ∧ l.length ≤ 4096
def wrapN (ls : List (List UInt8)) (j : Nat) : List UInt8 := (ls.take j).flatMap frameOf
def WrapRel (w : World) (ls : List (List UInt8)) (j : Nat) (v : Value) (wr : World) : Prop :=
  ∃ A n c, v = .slice A n c ∧ OwB wr 5 A n c (wrapN ls j) ∧ Fresh w A ∧ Mod none_ w wr ∧ (∀ i l, i < j → ls[i]? = some l → okL l) ∧ n ≤ j * 4102
def WrapPost (w : World) (ls : List (List UInt8)) (e : Ending) (w' : World) : Prop :=
  Mod none_ w w' ∧ (((∀ l ∈ ls, okL l) ∧ ∃ A n c, e = .returned (.tuple #[.slice A n c, .int .i64 0]) ∧ OwB w' 5 A n c (ls.flatMap frameOf) ∧ Fresh w A ∧ n ≤ ls.length * 4102) ∨
    ((∃ l ∈ ls, ¬ okL l) ∧ e = .returned (.tuple #[.slice none 0 0, .int .i64 1])))

set_option maxHeartbeats 1000000 in
theorem wrap_ok (w : World) (A : Option Addr) (n d : Nat) (ss : List SV) (ls : List (List UInt8)) (h : RdL w A n ss ls) (hn : n ≤ 1000000) :
    Calls Try.prog 14 #[.slice A n d] w fun e w' => WrapPost w ls e w' := by
  obtain ⟨i0, hi, hz0, hz1, hz2⟩ := info_parts u8info
  have hll := Lib.hid h.len
  have H := Lib.hid h
  clear h
  go_enter Try.func14, Try.ntmps14
  go_wp2_with fail
  go_loopw [4, 11] (fun v i wr => ∃ j : Nat, i = .int .i64 j ∧ WrapRel w ls j v wr ∧ j ≤ n) (fun _ i _ => n - (intOf i).toNat)
  case atStart => exact ⟨0, rfl, ⟨none, 0, 0, rfl, Ow.nil _ _ _, (fun _ h => by cases h), Mod.refl _ w, (fun i l hi => by omega), by omega⟩, Nat.zero_le _⟩
  case round =>
    obtain ⟨j, rfl, ⟨B, m, c, rfl, hown, hf, hm, hok, hml⟩, hjn⟩ := hrel
    by_cases q1 : j < n
    · have hr : RdL wr A n ss ls := ⟨H.out.1.mod0 hm, H.out.2.1, fun i s l hs hl => ⟨Rd.mod0 (H.out.2.2 i s l hs hl).1 hm, (H.out.2.2 i s l hs hl).2⟩⟩
      obtain ⟨b, o, s, l, rfl, hs, hl, hcell, hrb, hsn, hsc⟩ := hr.at_ q1
      obtain ⟨Sa, Sn, Sc⟩ := s
      simp only at hcell hrb hsn hsc
      replace hl := Lib.hid hl
      replace hown := Lib.hid hown
      replace hf := Lib.hid hf
      replace hm := Lib.hid hm
      replace hok := Lib.hid hok
      clear hr hs
      have hlen := hrb.len
      replace hlen := Lib.hid hlen
      replace hrb := Lib.hid hrb
      by_cases hbad : Sn < 1 ∨ 4096 < Sn
      · have hpost : WrapPost w ls (.returned (.tuple #[.slice none 0 0, .int .i64 1])) wr := by
          refine ⟨hm.out, .inr ⟨⟨l, List.mem_of_getElem? hl.out, fun ho => ?_⟩, rfl⟩⟩
          have := ho.1; have := ho.2; have := hlen.out; omega
        replace hpost := Lib.hid hpost
        replace hbad := Lib.hid hbad
        go_wp2_with (go_at_call 12; refine (frame_no _ _ _ _ hbad.out).mono ?_; rintro e w1 ⟨rfl, rfl⟩)
        go_ret2
        exact hpost.out
      · have g1 : 1 ≤ Sn := by omega
        have g2 : Sn ≤ 4096 := by omega
        clear hbad
        go_wp2_with (first
          | (go_at_call 12; refine (frame_yes _ _ _ _ l hrb.out g1 g2).mono ?_; rintro e w1 ⟨A1, c1, rfl, ho1, hf1, hm1⟩; have ho1' := Lib.hid ho1; have hm1' := Lib.hid hm1; clear ho1 hf1 hm1)
          | (at_builtin; refine wpList_append_ow rfl (.tmp 23) (.tmp 24) 22 rfl 5 i0 _ 1 1 Try.underlying22 hi hz0 hz1 hz2 rfl (by omega) B m c (bvs (wrapN ls j)) rfl (Ow.mod0 hown.out hm1'.out) A1 (6 + Sn) c1 (bvs (frameOf l)) rfl ho1'.out.rd (bvs_one _) (by omega) (by omega) ?_; intro A5 c5 w5 hown5 hmod5 hA5))
        have hnext : WrapRel w ls (j + 1) (.slice A5 (m + (6 + Sn)) c5) w5 := by
          refine ⟨A5, _, c5, rfl, ?_, ?_, ?_, ?_, by omega⟩
          · have e : wrapN ls (j + 1) = wrapN ls j ++ frameOf l := by
              unfold wrapN
              rw [List.take_add_one, hl.out, List.flatMap_append]; simp
            show Ow _ _ _ _ _ _ (bvs _)
            rw [e, bvs_append]; exact hown5
          · rintro a ha
            rcases hA5 with rfl | rfl
            · exact hf.out a ha
            · cases ha; have := hm.out.size; have := hm1'.out.size; simp; omega
          · exact (hm.out.trans hm1'.out).then hmod5 fun i hi hk => by obtain ⟨a, ha, rfl⟩ := hk; have := hf.out a ha; omega
          · intro i l' hi hl'
            rcases Nat.lt_or_ge i j with h1 | h1
            · exact hok.out i l' h1 hl'
            · obtain rfl : i = j := by omega
              rw [hl.out] at hl'
              cases hl'
              have := hlen.out
              exact ⟨by omega, by omega⟩
        replace hnext := Lib.hid hnext
        clear hown5 hmod5 hA5
        go_wp2
        go_roundw
        case rel => exact ⟨j + 1, by go_num, hnext.out, by omega⟩
        case measure => simp [intOf]; omega
    · have hj2 : j = n := by omega
      have hpost : WrapPost w ls (.returned (.tuple #[.slice B m c, .int .i64 0])) wr := by
        have hlj : ls.length = j := by rw [hll.out, hj2]
        refine ⟨hm, .inl ⟨fun l hl => ?_, B, m, c, rfl, ?_, hf, by rw [hlj]; exact hml⟩⟩
        · obtain ⟨i, h1, h2⟩ := List.getElem_of_mem hl
          exact hok i l (by omega) (by rw [List.getElem?_eq_getElem h1, h2])
        · have e : wrapN ls j = ls.flatMap frameOf := by unfold wrapN; rw [List.take_of_length_le (by omega)]
          rw [e] at hown; exact hown
      replace hpost := Lib.hid hpost
      clear hown hf hm hok hj2
      go_wp2
      go_ret2
      exact hpost.out
end Go.Proofs.Ytameeeblhllemaa
