/-
  The contract of coins.Text. The table of powers of ten reads as the program's text lays it (asked only of numbers of three digits or more).
-/
import Derived.Test.YtlikknamliamiaaDoorFmtU
import Derived.Deep.QuietTactic
import Derived.Lib.ItoaLen
namespace Go.Proofs.YtlikknamliamiaaDoor
set_option linter.unusedVariables false
open Go.RowKit
/-- A sum's digits, d of them behind the point. -/
def padD (d : Nat) (s : List UInt8) : List UInt8 := List.replicate (d + 1 - s.length) 48 ++ s
def dotted (d : Nat) (s : List UInt8) : List UInt8 := if 0 < d then s.take (s.length - d) ++ 46 :: s.drop (s.length - d) else s
def txtN (u d : Nat) : List UInt8 := dotted d (padD d (Lib.decDigits u))
def txtC (a : Int) (d : Nat) : List UInt8 := if a < 0 then 45 :: txtN (mag a) d else txtN (mag a) d
def clampD (digits : Int) : Nat := (min (max digits 0) 6).toNat
theorem txt_app (a b : List UInt8) : txt a ++ txt b = txt (a ++ b) := by
  apply ByteArray.ext
  simp [txt, ByteArray.data_append]
theorem txt_size_ (l : List UInt8) : (txt l).size = l.length := by simp [txt, ByteArray.size]
theorem extract_txt (l : List UInt8) (k : Nat) : (txt l).extract 0 k = txt (l.take k) := by
  apply ByteArray.ext
  apply Array.ext'
  simp [txt, ByteArray.data_extract]
theorem extract_tail (l : List UInt8) (k : Nat) : (txt l).extract k l.length = txt (l.drop k) := by
  apply ByteArray.ext
  apply Array.ext'
  simp only [txt, ByteArray.data_extract, Array.toList_extract, List.extract_eq_take_drop]
  rw [List.take_of_length_le (by simp)]
theorem rep_one (c : Nat) : Lib.repeatL [48] c = List.replicate c 48 := by
  induction c with
  | zero => simp [Lib.repeatL]
  | succ c ih => simp only [Lib.repeatL, List.cons_append, List.nil_append, ih, List.replicate_succ]
set_option maxRecDepth 100000 in
set_option maxHeartbeats 1000000 in
theorem text_ok (w : World) (a digits : Int) (ha : I64 a) (ht : 100 ≤ mag a → Tab w) : Calls Tryd.prog 27 #[.int .i64 a, .int .i64 digits] w fun e w' => e = .returned (.string (txt (txtC a (clampD digits)))) ∧ Mod none_ w w' := by
  obtain ⟨d, hd⟩ : ∃ d : Nat, d = clampD digits := ⟨_, rfl⟩
  have hcl : min (max digits 0) 6 = (d : Int) := by rw [hd]; unfold clampD; omega
  have hd6 : d ≤ 6 := by omega
  rw [← hd]
  have hmag := mag_le ha.1 ha.2
  obtain ⟨s, hs⟩ : ∃ s, s = Lib.decDigits (mag a) := ⟨_, rfl⟩
  have hsl : s.length ≤ 20 ∧ 1 ≤ s.length := by
    rw [hs, Lib.decDigits_length]
    exact ⟨Lib.nDigits_le20 _ (by omega), Lib.nDigits_pos _⟩
  obtain ⟨hl1, hl2⟩ := hsl
  have hf := fun W (h : 100 ≤ mag a → Tab W) => fmtu_ok W (mag a) (by omega) h
  rw [← hs] at hf
  have hsz : (txt s).size = s.length := by simp [txt, ByteArray.size]
  replace hd := Lib.hid hd
  replace ha := Lib.hid ha
  replace ht := Lib.hid ht
  replace hmag := Lib.hid hmag
  replace hf := Lib.hid hf
  replace hs := Lib.hid hs
  by_cases hlen : s.length ≤ d
  · obtain ⟨k, hk⟩ : ∃ k : Nat, k = d + 1 - s.length := ⟨_, rfl⟩
    have hki : (d : Int) + 1 - (s.length : Int) = (k : Int) := by omega
    have hrep : ∀ W, Calls Tryd.prog 35 #[.string ⟨#[48]⟩, .int .i64 (k : Int)] W fun e w' => e = .returned (.string (txt (List.replicate k 48))) ∧ Mod none_ W w' := fun W =>
      (Tryd.strings_Repeat ⟨#[48]⟩ k W (by omega) (by show 1 * k ≤ _; omega)).mono fun e w' h => ⟨by rw [h.1]; show _ = Ending.returned (.string (txt _)); rw [← rep_one k]; rfl, Mod.of_below h.2⟩
    obtain ⟨P, hP⟩ : ∃ P, P = padD d s := ⟨_, rfl⟩
    have happ : txt (List.replicate k 48) ++ txt s = txt P := by rw [txt_app, hP, hk]; rfl
    have hPl : P.length = d + 1 := by rw [hP]; unfold padD; rw [List.length_append, List.length_replicate]; omega
    replace hk := Lib.hid hk
    replace hrep := Lib.hid hrep
    replace hP := Lib.hid hP
    go_enter Tryd.func27, Tryd.ntmps27
    go_wp2_with fail
    refine (size_ok w a ha.out).mono ?_
    rintro e w1 ⟨rfl, rfl⟩
    dsimp only
    go_wp2_with fail
    refine (hf.out w ht.out).mono ?_
    rintro e w1 ⟨rfl, hm1⟩
    dsimp only
    replace hm1 := Lib.hid hm1
    go_wp2_with fail
    refine (hrep.out w1).mono ?_
    rintro e w2 ⟨rfl, hm2⟩
    dsimp only
    replace hm2 := Lib.hid hm2
    obtain ⟨p, hp⟩ : ∃ p : Nat, P.length = p + d := ⟨P.length - d, by omega⟩
    have hts := txt_size_
    have hpb : p ≤ 30 := by omega
    obtain ⟨H, hH⟩ : ∃ H, H = P.take p := ⟨_, rfl⟩
    obtain ⟨T, hT⟩ : ∃ T, T = P.drop p := ⟨_, rfl⟩
    have x1 : (txt P).extract 0 p = txt H := by rw [hH, extract_txt]
    have x2 : (txt P).extract p (p + d) = txt T := by rw [hT, ← hp, extract_tail]
    have x3 : (⟨#[46]⟩ : ByteArray) ++ txt T = txt (46 :: T) := txt_app [46] T
    have x4 : txt H ++ txt (46 :: T) = txt (H ++ 46 :: T) := txt_app _ _
    have hR : H ++ 46 :: T = dotted d P := by unfold dotted; rw [if_pos (by omega), hH, hT, show P.length - d = p by omega]
    obtain ⟨R, hR2⟩ : ∃ R, R = dotted d P := ⟨_, rfl⟩
    rw [hR, ← hR2] at x4
    have hdne : ¬ d = 0 := by omega
    have hHl : H.length = p := by rw [hH, List.length_take]; omega
    have hTl : T.length = d := by rw [hT, List.length_drop]; omega
    have hRl : R.length = p + (d + 1) := by rw [hR2, ← hR, List.length_append, List.length_cons, hHl, hTl]
    replace hH := Lib.hid hH
    replace hT := Lib.hid hT
    replace hR := Lib.hid hR
    have x5 : (⟨#[45]⟩ : ByteArray) ++ txt R = txt (45 :: R) := txt_app [45] R
    have hfin : Hid (txtC a d = if a < 0 then 45 :: R else R) := Lib.hid (by unfold txtC txtN; rw [← hs.out, ← hP.out, ← hR2])
    replace hR2 := Lib.hid hR2
    replace hPl := Lib.hid hPl
    by_cases hneg : a < 0
    · go_wp2_with (go_quiet (fail))
      go_ret
      exact ⟨by rw [hfin.out, if_pos hneg]; rfl, (hm1.out.trans hm2.out).drewN _⟩
    · go_wp2_with (go_quiet (fail))
      go_ret
      exact ⟨by rw [hfin.out, if_neg (by omega)]; rfl, (hm1.out.trans hm2.out).drewN _⟩
  · obtain ⟨P, hP⟩ : ∃ P, P = padD d s := ⟨_, rfl⟩
    have hPs : P = s := by rw [hP]; unfold padD; rw [show d + 1 - s.length = 0 by omega]; rfl
    have hPl : d + 1 ≤ P.length := by rw [hPs]; omega
    rw [← hPs] at hsz hlen hl1 hl2
    have hf' := hf.out
    rw [← hPs] at hf'
    clear hf
    replace hf' := Lib.hid hf'
    replace hP := Lib.hid hP
    replace hPs := Lib.hid hPs
    by_cases hd0 : 0 < d
    · go_enter Tryd.func27, Tryd.ntmps27
      go_wp2_with fail
      refine (size_ok w a ha.out).mono ?_
      rintro e w1 ⟨rfl, rfl⟩
      dsimp only
      go_wp2_with fail
      refine (hf'.out w ht.out).mono ?_
      rintro e w1 ⟨rfl, hm1⟩
      dsimp only
      clear hsz
      replace hm1 := Lib.hid hm1
      obtain ⟨p, hp⟩ : ∃ p : Nat, P.length = p + d := ⟨P.length - d, by omega⟩
      have hts := txt_size_
      have hpb : p ≤ 30 := by omega
      obtain ⟨H, hH⟩ : ∃ H, H = P.take p := ⟨_, rfl⟩
      obtain ⟨T, hT⟩ : ∃ T, T = P.drop p := ⟨_, rfl⟩
      have x1 : (txt P).extract 0 p = txt H := by rw [hH, extract_txt]
      have x2 : (txt P).extract p (p + d) = txt T := by rw [hT, ← hp, extract_tail]
      have x3 : (⟨#[46]⟩ : ByteArray) ++ txt T = txt (46 :: T) := txt_app [46] T
      have x4 : txt H ++ txt (46 :: T) = txt (H ++ 46 :: T) := txt_app _ _
      have hR : H ++ 46 :: T = dotted d P := by unfold dotted; rw [if_pos (by omega), hH, hT, show P.length - d = p by omega]
      obtain ⟨R, hR2⟩ : ∃ R, R = dotted d P := ⟨_, rfl⟩
      rw [hR, ← hR2] at x4
      have hdne : ¬ d = 0 := by omega
      have hHl : H.length = p := by rw [hH, List.length_take]; omega
      have hTl : T.length = d := by rw [hT, List.length_drop]; omega
      have hRl : R.length = p + (d + 1) := by rw [hR2, ← hR, List.length_append, List.length_cons, hHl, hTl]
      replace hH := Lib.hid hH
      replace hT := Lib.hid hT
      replace hR := Lib.hid hR
      have x5 : (⟨#[45]⟩ : ByteArray) ++ txt R = txt (45 :: R) := txt_app [45] R
      have hfin : Hid (txtC a d = if a < 0 then 45 :: R else R) := Lib.hid (by unfold txtC txtN; rw [← hs.out, ← hP.out, ← hR2])
      replace hR2 := Lib.hid hR2
      by_cases hneg : a < 0
      · go_wp2_with (go_quiet (fail))
        go_ret
        exact ⟨by rw [hfin.out, if_pos hneg]; rfl, hm1.out.drewN _⟩
      · go_wp2_with (go_quiet (fail))
        go_ret
        exact ⟨by rw [hfin.out, if_neg (by omega)]; rfl, hm1.out.drewN _⟩
    · obtain rfl : d = 0 := by omega
      rw [show (((0 : Nat) : Int)) = 0 from rfl] at hcl
      clear hd0
      go_enter Tryd.func27, Tryd.ntmps27
      go_wp2_with fail
      refine (size_ok w a ha.out).mono ?_
      rintro e w1 ⟨rfl, rfl⟩
      dsimp only
      go_wp2_with fail
      refine (hf'.out w ht.out).mono ?_
      rintro e w1 ⟨rfl, hm1⟩
      dsimp only
      clear hsz
      replace hm1 := Lib.hid hm1
      obtain ⟨p, hp⟩ : ∃ p : Nat, P.length = p := ⟨P.length, rfl⟩
      have hts := txt_size_
      have hpb : p ≤ 30 := by omega
      have x2 : (txt P).extract p p = txt [] := by rw [show p = P.length by omega, extract_tail, List.drop_eq_nil_of_le (Nat.le_refl _)]
      obtain ⟨R, hR2⟩ : ∃ R, R = dotted 0 P := ⟨_, rfl⟩
      have hRP : P = R := by rw [hR2]; unfold dotted; rw [if_neg (by omega)]
      have x1 : (txt P).extract 0 p = txt R := by rw [extract_txt, List.take_of_length_le (by omega), hRP]
      have hRl : R.length = p := by rw [← hRP, hp]
      replace hRP := Lib.hid hRP
      have x5 : (⟨#[45]⟩ : ByteArray) ++ txt R = txt (45 :: R) := txt_app [45] R
      have hfin : Hid (txtC a 0 = if a < 0 then 45 :: R else R) := Lib.hid (by unfold txtC txtN; rw [← hs.out, ← hP.out, ← hR2])
      replace hR2 := Lib.hid hR2
      by_cases hneg : a < 0
      · go_wp2_with (go_quiet (fail))
        go_ret
        exact ⟨by rw [hfin.out, if_pos hneg]; rfl, hm1.out.drewN _⟩
      · go_wp2_with (go_quiet (fail))
        go_ret
        exact ⟨by rw [hfin.out, if_neg (by omega)]; rfl, hm1.out.drewN _⟩
end Go.Proofs.YtlikknamliamiaaDoor
