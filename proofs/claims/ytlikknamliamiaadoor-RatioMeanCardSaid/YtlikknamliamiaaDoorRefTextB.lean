/-
  The reference's Text, digit by digit: as coins.Text. No condition.
-/
import Derived.Test.YtlikknamliamiaaDoorCoinText
import Derived.Test.YtlikknamliamiaaDoorRefTimes
namespace Go.Proofs.YtlikknamliamiaaDoor
set_option linter.unusedVariables false
open Go.RowKit
/-- The i lowest digits of u. -/
def lowD : Nat → Nat → List UInt8
  | 0, _ => []
  | i + 1, u => UInt8.ofNat (48 + u / 10 ^ i % 10) :: lowD i u
theorem lowD_len : ∀ (i u : Nat), (lowD i u).length = i
  | 0, _ => rfl
  | i + 1, u => by simp [lowD, lowD_len i u]
theorem lowD_succ : ∀ (i u : Nat), lowD (i + 1) u = lowD i (u / 10) ++ [UInt8.ofNat (48 + u % 10)]
  | 0, u => by simp [lowD]
  | i + 1, u => by
    have h := lowD_succ i u
    have e : u / 10 ^ (i + 1) = u / 10 / 10 ^ i := by rw [Nat.div_div_eq_div_mul, Nat.pow_succ, Nat.mul_comm]
    rw [lowD, h, lowD, e]; rfl
theorem lowD_zero : ∀ i, lowD i 0 = List.replicate i 48
  | 0 => rfl
  | i + 1 => by rw [lowD, lowD_zero i, List.replicate_succ]; simp
theorem lowD_pad : ∀ (u i : Nat), (Lib.decDigits u).length ≤ i → lowD i u = List.replicate (i - (Lib.decDigits u).length) 48 ++ Lib.decDigits u := by
  intro u
  induction u using Nat.strongRecOn with
  | ind u ih =>
    intro i hi
    have hne : 1 ≤ (Lib.decDigits u).length := by rw [Lib.decDigits_length]; exact Lib.nDigits_pos _
    obtain ⟨j, rfl⟩ : ∃ j, i = j + 1 := ⟨i - 1, by omega⟩
    rw [lowD_succ]
    rw [Lib.decDigits] at hi ⊢
    by_cases h : u < 10
    · rw [dif_pos h, show u / 10 = 0 by omega, lowD_zero, Nat.mod_eq_of_lt h]; rfl
    · rw [dif_neg h] at hi ⊢
      rw [List.length_append, List.length_singleton] at hi ⊢
      rw [ih (u / 10) (by omega) j (by omega), List.append_assoc, Nat.add_sub_add_right]
/-- The text behind i digits. -/
def partT (d i u : Nat) : List UInt8 := if 0 < d ∧ d < i then (lowD i u).take (i - d) ++ 46 :: (lowD i u).drop (i - d) else lowD i u
theorem partT_dot (d u : Nat) (h : 0 < d) : partT d (d + 1) u = UInt8.ofNat (48 + u / 10 ^ d % 10) :: 46 :: partT d d u := by
  unfold partT
  rw [if_pos ⟨h, by omega⟩, if_neg (by omega), show d + 1 - d = 1 by omega, lowD]; rfl
theorem partT_step (d i u : Nat) (h : ¬ (0 < d ∧ i = d)) : partT d (i + 1) u = UInt8.ofNat (48 + u / 10 ^ i % 10) :: partT d i u := by
  unfold partT
  by_cases h1 : 0 < d ∧ d < i
  · rw [if_pos h1, if_pos ⟨h1.1, by omega⟩, show i + 1 - d = (i - d) + 1 by omega, lowD, List.take_succ_cons, List.drop_succ_cons]; rfl
  · rw [if_neg h1, if_neg (by omega), lowD]
theorem nDig_le (u i : Nat) (h : u / 10 ^ i = 0) (hi : 0 < i) : (Lib.decDigits u).length ≤ i := by
  have : ∀ (i u : Nat), 0 < i → u / 10 ^ i = 0 → (Lib.decDigits u).length ≤ i := by
    intro i
    induction i with
    | zero => intro u h; omega
    | succ i ih =>
      intro u _ h
      rw [Lib.decDigits]
      by_cases h10 : u < 10
      · rw [dif_pos h10]; simp
      · rw [dif_neg h10, List.length_append, List.length_singleton]
        have e : u / 10 ^ (i + 1) = u / 10 / 10 ^ i := by rw [Nat.div_div_eq_div_mul, Nat.pow_succ, Nat.mul_comm]
        rw [e] at h
        by_cases hi : 0 < i
        · exact Nat.add_le_add_right (ih _ hi h) 1
        · obtain rfl : i = 0 := by omega
          rw [Nat.pow_zero, Nat.div_one] at h; omega
  exact this i u hi h
theorem nDig_ge (u i : Nat) (h : (Lib.decDigits u).length ≤ i) : u / 10 ^ i = 0 := by
  have : ∀ (i u : Nat), (Lib.decDigits u).length ≤ i → u / 10 ^ i = 0 := by
    intro i
    induction i with
    | zero => intro u h; rw [Lib.decDigits_length] at h; have := Lib.nDigits_pos u; omega
    | succ i ih =>
      intro u h
      rw [Lib.decDigits] at h
      have e : u / 10 ^ (i + 1) = u / 10 / 10 ^ i := by rw [Nat.div_div_eq_div_mul, Nat.pow_succ, Nat.mul_comm]
      rw [e]
      by_cases h10 : u < 10
      · rw [show u / 10 = 0 by omega, Nat.zero_div]
      · rw [dif_neg h10, List.length_append, List.length_singleton] at h
        exact ih _ (by omega)
  exact this i u h
/-- Where the loop ends: nothing left, and more than d digits, and not more than needed. -/
theorem partT_done (d i u : Nat) (h0 : u / 10 ^ i = 0) (hi : d < i) (hmin : i = d + 1 ∨ u / 10 ^ (i - 1) ≠ 0) : partT d i u = txtN u d := by
  have hl := nDig_le u i h0 (by omega)
  have hm : i = d + 1 ∨ i = (Lib.decDigits u).length := by
    rcases hmin with h | h
    · exact .inl h
    · refine .inr (Nat.le_antisymm ?_ hl)
      have := mt (nDig_ge u (i - 1)) h
      omega
  have hP : lowD i u = padD d (Lib.decDigits u) := by
    rw [lowD_pad u i hl]
    unfold padD
    rcases hm with h | h
    · rw [h]
    · rw [h, Nat.sub_self]
      by_cases h3 : d + 1 - (Lib.decDigits u).length = 0
      · rw [h3]
      · omega
  unfold partT txtN dotted
  have hlen := lowD_len i u
  rw [← hP, hlen]
  by_cases h : 0 < d
  · rw [if_pos ⟨h, hi⟩, if_pos h]
  · rw [if_neg (by omega), if_neg h]
def TeRel (u d i n : Nat) (s : List UInt8) : Prop := n = u / 10 ^ i ∧ s = partT d i u ∧ (i ≤ d ∨ i = d + 1 ∨ u / 10 ^ (i - 1) ≠ 0) ∧ i ≤ 20
theorem TeRel.start (u d : Nat) : TeRel u d 0 u [] := ⟨by simp, by simp [partT, lowD], .inl (by omega), by omega⟩
theorem div_small (u i : Nat) (hu : u < 18446744073709551616) (h : 0 < u / 10 ^ i) : i < 20 := by
  refine Nat.lt_of_not_le fun hi => ?_
  have : 10 ^ 20 ≤ 10 ^ i := Nat.pow_le_pow_right (by omega) hi
  have h20 : (10:Nat) ^ 20 = 100000000000000000000 := by decide
  rw [h20] at this
  rw [Nat.div_eq_of_lt (by omega)] at h
  omega
theorem TeRel.next {u d i n : Nat} {s : List UInt8} (h : TeRel u d i n s) (hu : u < 18446744073709551616) (hd : d ≤ 6) (hc : 0 < n ∨ i ≤ d) :
    i < 20 ∧ (0 < d → i = d → TeRel u d (i + 1) (n / 10) (UInt8.ofNat (48 + n % 10) :: 46 :: s)) ∧ (¬ (0 < d ∧ i = d) → TeRel u d (i + 1) (n / 10) (UInt8.ofNat (48 + n % 10) :: s)) := by
  obtain ⟨rfl, rfl, h3, h4⟩ := h
  have hi : i < 20 := by
    rcases hc with h | h
    · exact div_small u i hu h
    · omega
  have e : u / 10 ^ i / 10 = u / 10 ^ (i + 1) := by rw [Nat.div_div_eq_div_mul, Nat.pow_succ]
  have hor : i + 1 ≤ d ∨ i + 1 = d + 1 ∨ u / 10 ^ (i + 1 - 1) ≠ 0 := by
    rw [Nat.add_sub_cancel]; omega
  refine ⟨hi, fun h0 h1 => ⟨e, ?_, hor, by omega⟩, fun h0 => ⟨e, (partT_step d i u h0).symm, hor, by omega⟩⟩
  subst h1
  exact (partT_dot i u h0).symm
theorem TeRel.done {u d i n : Nat} {s : List UInt8} (h : TeRel u d i n s) (h0 : n = 0) (hi : d < i) : s = txtN u d := by
  obtain ⟨rfl, rfl, h3, h4⟩ := h
  exact partT_done d i u h0 hi (by omega)
theorem TeRel.len {u d i n : Nat} {s : List UInt8} (h : TeRel u d i n s) : s.length ≤ 30 := by
  obtain ⟨rfl, rfl, h3, h4⟩ := h
  have := lowD_len i u
  unfold partT
  split
  · rw [List.length_append, List.length_cons, List.length_take, List.length_drop]; omega
  · omega
theorem dig_ext (k : Nat) (hk : k < 10) : (⟨#[48, 49, 50, 51, 52, 53, 54, 55, 56, 57]⟩ : ByteArray).extract k (k + 1) = txt [UInt8.ofNat (48 + k)] := by
  have : ∀ k : Fin 10, (⟨#[48, 49, 50, 51, 52, 53, 54, 55, 56, 57]⟩ : ByteArray).extract k.val (k.val + 1) = txt [UInt8.ofNat (48 + k.val)] := by decide
  exact this ⟨k, hk⟩
set_option maxRecDepth 100000 in
set_option maxHeartbeats 2000000 in
theorem rtext_ok (w : World) (a digits : Int) (ha : I64 a) : Calls Tryd.prog 18 #[.int .i64 a, .int .i64 digits] w fun e w' => e = .returned (.string (txt (txtC a (clampD digits)))) ∧ Mod none_ w w' := by
  obtain ⟨d, hd⟩ : ∃ d : Nat, d = clampD digits := ⟨_, rfl⟩
  have hcl : min (max digits 0) 6 = (d : Int) := by rw [hd]; unfold clampD; omega
  have hd6 : d ≤ 6 := by omega
  rw [← hd]
  obtain ⟨u, hu⟩ : ∃ u : Nat, u = mag a := ⟨_, rfl⟩
  have hub : u < 18446744073709551616 := by have := mag_le ha.1 ha.2; omega
  obtain ⟨s1, s2⟩ := size_val a ha
  rw [← hu] at s1 s2
  have hfin : ∀ s, s = txtN u d → txtC a d = if a < 0 then 45 :: s else s := by intro s h; rw [h]; unfold txtC; rw [← hu]
  obtain ⟨a1, a2⟩ := ha
  replace hd := Lib.hid hd
  replace hu := Lib.hid hu
  replace hfin := Lib.hid hfin
  have hts := txt_size_
  by_cases hneg : a < 0
  all_goals
    first
    | have s := s1 hneg
    | have s := s2 hneg
    clear s1 s2
    go_enter Tryd.func18, Tryd.ntmps18
    go_wp2_with fail
    go_loop [5, 6, 7] (fun xn xs xi => ∃ (i n : Nat) (X : ByteArray) (s : List UInt8), xi = .int .i64 (i : Int) ∧ xn = .int .u64 (n : Int) ∧ xs = .string X ∧ X = txt s ∧ TeRel u d i n s) (fun _ _ xi => 20 - (intOf xi).toNat)
    case atStart => exact ⟨0, u, _, [], rfl, rfl, rfl, rfl, TeRel.start u d⟩
    case round =>
      obtain ⟨i, n, _, s, rfl, rfl, rfl, rfl, hrel⟩ := hrel
      have hlen := hrel.len
      have hi20 := hrel.2.2.2
      have hz := hts s
      by_cases hc : 0 < n ∨ i ≤ d
      · obtain ⟨hi, hn1, hn2⟩ := hrel.next hub hd6 hc
        obtain ⟨q, hq⟩ : ∃ q, q = n / 10 := ⟨_, rfl⟩
        obtain ⟨r, hr⟩ : ∃ r, r = n % 10 := ⟨_, rfl⟩
        have hr10 : r < 10 := by omega
        rw [← hq, ← hr] at hn1 hn2
        have hnb : n < 18446744073709551616 := by rw [hrel.1]; exact Nat.lt_of_le_of_lt (Nat.div_le_self _ _) hub
        have x1 := dig_ext r hr10
        generalize UInt8.ofNat (48 + r) = c at *
        have x2 : txt [c] ++ txt s = txt (c :: s) := txt_app _ _
        have x3 : (⟨#[46]⟩ : ByteArray) ++ txt s = txt (46 :: s) := txt_app [46] s
        have x4 : txt [c] ++ txt (46 :: s) = txt (c :: 46 :: s) := txt_app _ _
        have hz2 := hts (46 :: s)
        have hz3 := hts [c]
        have q1 : (n : Int) / 10 = (q : Int) := by omega
        have q2 : (n : Int) % 10 = (r : Int) := by omega
        replace hrel := Lib.hid hrel
        replace hn1 := Lib.hid hn1
        replace hn2 := Lib.hid hn2
        replace hq := Lib.hid hq
        replace hr := Lib.hid hr
        by_cases hn0 : n = 0
        · subst hn0
          obtain rfl : q = 0 := by omega
          obtain rfl : r = 0 := by omega
          rw [Nat.zero_add] at x1
          have hid : i ≤ d := by omega
          by_cases hdot : 0 < d ∧ i = d
          · obtain ⟨hd0, rfl⟩ := hdot
            go_wp2_with fail
            refine ⟨⟨i + 1, 0, _, c :: 46 :: s, by go_num, rfl, rfl, by first | rfl | (rw [x1, x4]), hn1.out hd0 rfl⟩, ?_⟩
            simp [intOf]; omega
          · go_wp2_with fail
            all_goals
              refine ⟨⟨i + 1, 0, _, c :: s, by go_num, rfl, rfl, by first | rfl | (rw [x1, x2]), hn2.out hdot⟩, ?_⟩
              simp [intOf]; omega
        · by_cases hdot : 0 < d ∧ i = d
          · obtain ⟨hd0, rfl⟩ := hdot
            go_wp2_with fail
            refine ⟨⟨i + 1, q, _, c :: 46 :: s, by go_num, rfl, rfl, by first | rfl | (rw [x4]), hn1.out hd0 rfl⟩, ?_⟩
            simp [intOf]; omega
          · go_wp2_with fail
            all_goals
              refine ⟨⟨i + 1, q, _, c :: s, by go_num, rfl, rfl, by first | rfl | (rw [x2]), hn2.out hdot⟩, ?_⟩
              simp [intOf]; omega
      · have hf := hfin.out s (hrel.done (by omega) (by omega))
        have x5 : (⟨#[45]⟩ : ByteArray) ++ txt s = txt (45 :: s) := txt_app [45] s
        have hn0 : n = 0 := by omega
        replace hrel := Lib.hid hrel
        replace hf := Lib.hid hf
        go_wp2_with fail
        go_ret
        exact ⟨by first | (rw [hf.out, if_pos hneg]; rfl) | (rw [hf.out, if_neg (by omega)]; rfl), Mod.refl _ _⟩
end Go.Proofs.YtlikknamliamiaaDoor
