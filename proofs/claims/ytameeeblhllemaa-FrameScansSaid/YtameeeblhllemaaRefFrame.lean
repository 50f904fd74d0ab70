/-
  The contracts of the reference's Frame and Wrap. No condition.
-/
import Derived.Test.YtameeeblhllemaaRefSum
namespace Go.Proofs.Ytameeeblhllemaa
open Go.RowKit

theorem refframe_no (w : World) (A : Option Addr) (n c : Nat) (hn : n < 1 ∨ 4096 < n) : Calls Try.prog 13 #[.slice A n c] w fun e w' => e = .returned (.tuple #[.slice none 0 0, .int .i64 1]) ∧ w = w' := by
  go_enter Try.func13, Try.ntmps13
  rcases hn with h | h
  · obtain rfl : n = 0 := by omega
    go_wp2
    go_ret2
    exact ⟨rfl, rfl⟩
  · have q : ¬ n < 1 := by omega
    go_wp2
    go_ret2
    exact ⟨rfl, rfl⟩

set_option maxHeartbeats 1000000 in
theorem refframe_yes (w : World) (A : Option Addr) (n c : Nat) (l : List UInt8) (h : RdB w A n l) (h1 : 1 ≤ n) (h2 : n ≤ 4096) : Calls Try.prog 13 #[.slice A n c] w fun e w' =>
    ∃ A' c', e = .returned (.tuple #[.slice A' (6 + n) c', .int .i64 0]) ∧ OwB w' 5 A' (6 + n) c' (frameOf l) ∧ Fresh w A' ∧ Mod none_ w w' := by
  obtain ⟨i0, hi, hz0, hz1, hz2⟩ := info_parts u8info
  have H := Lib.hid h
  have hl := Lib.hid h.len
  have hq := crc_lt l
  clear h
  have hhead : bvs (fhead l) = [.int .u8 ((n : Int) % 256), .int .u8 ((n : Int) / 256), .int .u8 ((crc l : Int) % 256), .int .u8 ((crc l : Int) / 256 % 256), .int .u8 ((crc l : Int) / 65536 % 256), .int .u8 ((crc l : Int) / 16777216)] := by
    have e := hl.out
    simp only [bvs, fhead, bv, List.map_cons, List.map_nil, by_toNat, e]
    have x1 : ((n / 256 % 256 : Nat) : Int) = (n : Int) / 256 := by omega
    have x2 : ((crc l / 16777216 % 256 : Nat) : Int) = (crc l : Int) / 16777216 := by omega
    rw [x1, x2]
    rfl
  replace hhead := Lib.hid hhead
  go_enter Try.func13, Try.ntmps13
  go_wp2_with (first
    | (go_at_call 17; refine (refsum_ok _ A n c l H.out (by omega)).mono ?_; rintro e w1 ⟨rfl, rfl⟩)
    | (at_builtin; refine wpList_append_ow rfl (.tmp 39) (.tmp 40) 22 rfl 5 i0 _ 1 1 Try.underlying22 hi hz0 hz1 hz2 rfl (by omega) (some ⟨w.heap.size, 0, none⟩) 6 6 (bvs (fhead l)) rfl (by rw [hhead.out]; exact Ow.new w _ 1 6 _ (by decide) rfl) A n c (bvs l) rfl (H.out.alloc _) (bvs_one _) (by omega) (by omega) ?_; intro A5 c5 w5 hown5 hmod5 hA5))
  have ho5 := Lib.hid (show OwB w5 5 A5 (6 + n) c5 (frameOf l) from by show Ow _ _ _ _ _ _ (bvs _); rw [frameOf, bvs_append]; exact hown5)
  have hm5 := Lib.hid (((Mod.refl none_ w).alloc (.cells #[.int .u8 ((n : Int) % 256), .int .u8 ((n : Int) / 256), .int .u8 ((crc l : Int) % 256), .int .u8 ((crc l : Int) / 256 % 256), .int .u8 ((crc l : Int) / 65536 % 256), .int .u8 ((crc l : Int) / 16777216)] 5)).then hmod5 fun i hi hf => by obtain ⟨a, ha, rfl⟩ := hf; cases ha; simp only at hi; omega)
  have hf5 : Fresh w A5 := by
    rintro a ha
    rcases hA5 with rfl | rfl <;> cases ha
    · exact Nat.le_refl _
    · simp
  replace hf5 := Lib.hid hf5
  clear hown5 hmod5 hA5
  go_wp2
  go_ret2
  exact ⟨A5, c5, rfl, ho5.out, hf5.out, hm5.out⟩

set_option maxHeartbeats 1000000 in
theorem refwrap_ok (w : World) (A : Option Addr) (n d : Nat) (ss : List SV) (ls : List (List UInt8)) (h : RdL w A n ss ls) (hn : n ≤ 1000000) :
    Calls Try.prog 15 #[.slice A n d] w fun e w' => WrapPost w ls e w' := by
  obtain ⟨i0, hi, hz0, hz1, hz2⟩ := info_parts u8info
  have hll := Lib.hid h.len
  have H := Lib.hid h
  clear h
  go_enter Try.func15, Try.ntmps15
  go_wp2_with fail
  go_loopw [4, 5] (fun v i wr => ∃ j : Nat, i = .int .i64 j ∧ WrapRel w ls j v wr ∧ j ≤ n) (fun _ i _ => n - (intOf i).toNat)
  case atStart => exact ⟨0, rfl, ⟨none, 0, 0, rfl, Ow.nil _ _ _, (fun _ h => by cases h), Mod.refl _ w, (fun i l hi => by omega), by omega⟩, Nat.zero_le _⟩
  case round =>
    obtain ⟨j, rfl, ⟨B, m, c, rfl, hown, hf, hm, hok, hml⟩, hjn⟩ := hrel
    by_cases q1 : j < n
    · have hr : RdL wr A n ss ls := ⟨H.out.1.mod0 hm, H.out.2.1, fun i s l hs hl => ⟨Rd.mod0 (H.out.2.2 i s l hs hl).1 hm, (H.out.2.2 i s l hs hl).2⟩⟩
      obtain ⟨b, o, s, l, rfl, hs, hl, hcell, hrb, hsn, hsc⟩ := hr.at_ q1
      obtain ⟨Sa, Sn, Sc⟩ := s
      simp only at hcell hrb hsn hsc
      replace hl := Lib.hid hl
      replace hown := Lib.hid hown
      replace hf := Lib.hid hf
      replace hm := Lib.hid hm
      replace hok := Lib.hid hok
      clear hr hs
      have hlen := hrb.len
      replace hlen := Lib.hid hlen
      replace hrb := Lib.hid hrb
      by_cases hbad : Sn < 1 ∨ 4096 < Sn
      · have hpost : WrapPost w ls (.returned (.tuple #[.slice none 0 0, .int .i64 1])) wr := by
          refine ⟨hm.out, .inr ⟨⟨l, List.mem_of_getElem? hl.out, fun ho => ?_⟩, rfl⟩⟩
          have := ho.1; have := ho.2; have := hlen.out; omega
        replace hpost := Lib.hid hpost
        replace hbad := Lib.hid hbad
        go_wp2_with (go_at_call 13; refine (refframe_no _ _ _ _ hbad.out).mono ?_; rintro e w1 ⟨rfl, rfl⟩)
        go_ret2
        exact hpost.out
      · have g1 : 1 ≤ Sn := by omega
        have g2 : Sn ≤ 4096 := by omega
        clear hbad
        go_wp2_with (first
          | (go_at_call 13; refine (refframe_yes _ _ _ _ l hrb.out g1 g2).mono ?_; rintro e w1 ⟨A1, c1, rfl, ho1, hf1, hm1⟩; have ho1' := Lib.hid ho1; have hm1' := Lib.hid hm1; clear ho1 hf1 hm1)
          | (at_builtin; refine wpList_append_ow rfl (.tmp 25) (.tmp 26) 22 rfl 5 i0 _ 1 1 Try.underlying22 hi hz0 hz1 hz2 rfl (by omega) B m c (bvs (wrapN ls j)) rfl (Ow.mod0 hown.out hm1'.out) A1 (6 + Sn) c1 (bvs (frameOf l)) rfl ho1'.out.rd (bvs_one _) (by omega) (by omega) ?_; intro A5 c5 w5 hown5 hmod5 hA5))
        have hnext : WrapRel w ls (j + 1) (.slice A5 (m + (6 + Sn)) c5) w5 := by
          refine ⟨A5, _, c5, rfl, ?_, ?_, ?_, ?_, by omega⟩
          · have e : wrapN ls (j + 1) = wrapN ls j ++ frameOf l := by
              unfold wrapN
              rw [List.take_add_one, hl.out, List.flatMap_append]; simp
            show Ow _ _ _ _ _ _ (bvs _)
            rw [e, bvs_append]; exact hown5
          · rintro a ha
            rcases hA5 with rfl | rfl
            · exact hf.out a ha
            · cases ha; have := hm.out.size; have := hm1'.out.size; simp; omega
          · exact (hm.out.trans hm1'.out).then hmod5 fun i hi hk => by obtain ⟨a, ha, rfl⟩ := hk; have := hf.out a ha; omega
          · intro i l' hi hl'
            rcases Nat.lt_or_ge i j with h1 | h1
            · exact hok.out i l' h1 hl'
            · obtain rfl : i = j := by omega
              rw [hl.out] at hl'
              cases hl'
              have := hlen.out
              exact ⟨by omega, by omega⟩
        replace hnext := Lib.hid hnext
        clear hown5 hmod5 hA5
        go_wp2
        go_roundw
        case rel => exact ⟨j + 1, by go_num, hnext.out, by omega⟩
        case measure => simp [intOf]; omega
    · have hj2 : j = n := by omega
      have hpost : WrapPost w ls (.returned (.tuple #[.slice B m c, .int .i64 0])) wr := by
        have hlj : ls.length = j := by rw [hll.out, hj2]
        refine ⟨hm, .inl ⟨fun l hl => ?_, B, m, c, rfl, ?_, hf, by rw [hlj]; exact hml⟩⟩
        · obtain ⟨i, h1, h2⟩ := List.getElem_of_mem hl
          exact hok i l (by omega) (by rw [List.getElem?_eq_getElem h1, h2])
        · have e : wrapN ls j = ls.flatMap frameOf := by unfold wrapN; rw [List.take_of_length_le (by omega)]
          rw [e] at hown; exact hown
      replace hpost := Lib.hid hpost
      clear hown hf hm hok hj2
      go_wp2
      go_ret2
      exact hpost.out
end Go.Proofs.Ytameeeblhllemaa
