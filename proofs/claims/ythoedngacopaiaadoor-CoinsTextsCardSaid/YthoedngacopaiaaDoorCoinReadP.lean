/-
  coins.Read, the plain side: what is written is parsed. No condition.
-/
import Derived.Test.YthoedngacopaiaaDoorCoinText
namespace Go.Proofs.YthoedngacopaiaaDoor
set_option linter.unusedVariables false
/-- The text without its first point. -/
def stripDot (l : List UInt8) : List UInt8 := Lib.replace l [46] [] 1
theorem index_none : ∀ (P : List UInt8), (46 : UInt8) ∉ P → Lib.index P [46] = -1 := by
  intro P
  induction P with
  | nil => intro _; rfl
  | cons c P ih =>
    intro h
    have hc : ¬ c = 46 := fun e => h (by simp [e])
    have hp : ([46] : List UInt8).isPrefixOf (c :: P) = false := by simp [List.isPrefixOf]; exact fun e => hc e.symm
    rw [Lib.index, hp, ih (fun hm => h (by simp [hm]))]
    rfl
theorem index_at : ∀ (H T : List UInt8), (46 : UInt8) ∉ H → Lib.index (H ++ 46 :: T) [46] = (H.length : Int) := by
  intro H
  induction H with
  | nil => intro T _; rw [List.nil_append, Lib.index]; rfl
  | cons c H ih =>
    intro T h
    have hc : ¬ c = 46 := fun e => h (by simp [e])
    have hp : ([46] : List UInt8).isPrefixOf (c :: (H ++ 46 :: T)) = false := by simp [List.isPrefixOf]; exact fun e => hc e.symm
    rw [List.cons_append, Lib.index, hp, ih T (fun hm => h (by simp [hm]))]
    have h2 : ((H.length : Int) == -1) = false := by simp
    rw [h2]
    simp
theorem strip_none {P : List UInt8} (h : (46 : UInt8) ∉ P) : stripDot P = P := by
  unfold stripDot Lib.replace
  rw [if_neg (by decide)]
  have hc := Lib.count_miss (index_none P h)
  unfold Lib.replaceNum
  rw [hc, if_pos (.inr (by decide))]
  rfl
theorem strip_at {H T : List UInt8} (h : (46 : UInt8) ∉ H) : stripDot (H ++ 46 :: T) = H ++ T := by
  unfold stripDot Lib.replace
  rw [if_neg (by decide)]
  have hi := index_at H T h
  have hc := Lib.count_hit (s := H ++ 46 :: T) (sub := [46]) (by simp) hi
  unfold Lib.replaceNum
  rw [if_neg (by rw [hc]; omega)]
  show Lib.replaceK [46] [] (0 + 1) _ = _
  rw [Lib.replaceK_hit _ _ _ _ _ hi]
  simp [Lib.replaceK]
def isDig (c : UInt8) : Prop := 48 ≤ c.toNat ∧ c.toNat ≤ 57
theorem dig_of (k : Nat) (h : k < 10) : isDig (UInt8.ofNat (48 + k)) ∧ (UInt8.ofNat (48 + k)).toNat = 48 + k := by
  have e : (UInt8.ofNat (48 + k)).toNat = 48 + k := by simp; omega
  exact ⟨by unfold isDig; omega, e⟩
theorem dec_digs : ∀ (u : Nat), ∀ c ∈ Lib.decDigits u, isDig c := by
  intro u
  induction u using Nat.strongRecOn with
  | ind u ih =>
    intro c hc
    rw [Lib.decDigits] at hc
    by_cases h : u < 10
    · rw [dif_pos h] at hc
      simp only [List.mem_singleton] at hc
      rw [hc]; exact (dig_of u h).1
    · rw [dif_neg h] at hc
      rcases List.mem_append.1 hc with hc | hc
      · exact ih (u / 10) (by omega) c hc
      · simp only [List.mem_singleton] at hc
        rw [hc]; exact (dig_of _ (by omega)).1
theorem pad_digs (d u : Nat) : ∀ c ∈ padD d (Lib.decDigits u), isDig c := by
  intro c hc
  rcases List.mem_append.1 hc with hc | hc
  · have := List.eq_of_mem_replicate hc
    rw [this]; unfold isDig; decide
  · exact dec_digs u c hc
theorem no_dot {P : List UInt8} (h : ∀ c ∈ P, isDig c) : (46 : UInt8) ∉ P := fun hm => by
  have := h 46 hm
  unfold isDig at this
  revert this; decide
theorem strip_txtN (u d : Nat) : stripDot (txtN u d) = padD d (Lib.decDigits u) := by
  unfold txtN dotted
  have hd := pad_digs d u
  generalize padD d (Lib.decDigits u) = P at hd
  split
  · rw [strip_at (no_dot (fun c hc => hd c (List.mem_of_mem_take hc))), List.take_append_drop]
  · exact strip_none (no_dot hd)
/-- Parsing: one digit more, or that it runs over, or is none. -/
def pstep (n : Nat) (c : UInt8) : Option Nat := if 57 < c.toNat ∨ c.toNat < 48 ∨ (18446744073709551615 - (c.toNat - 48)) / 10 < n then none else some (10 * n + (c.toNat - 48))
def parseF : List UInt8 → Nat → Option Nat
  | [], n => some n
  | c :: l, n => match pstep n c with | none => none | some m => parseF l m
theorem parseF_append : ∀ (a b : List UInt8) (n m : Nat), parseF a n = some m → parseF (a ++ b) n = parseF b m := by
  intro a
  induction a with
  | nil => intro b n m h; simp only [parseF, Option.some.injEq] at h; subst h; rfl
  | cons c a ih =>
    intro b n m h
    simp only [parseF, List.cons_append] at h ⊢
    cases hp : pstep n c with
    | none => rw [hp] at h; cases h
    | some k => rw [hp] at h; exact ih b k m h
theorem parse_dec : ∀ (u : Nat), u < 18446744073709551616 → parseF (Lib.decDigits u) 0 = some u := by
  intro u
  induction u using Nat.strongRecOn with
  | ind u ih =>
    intro hu
    rw [Lib.decDigits]
    by_cases h : u < 10
    · rw [dif_pos h]
      simp only [parseF, pstep, (dig_of u h).2]
      rw [if_neg (by omega)]
      simp
    · rw [dif_neg h, parseF_append _ _ _ _ (ih (u / 10) (by omega) (by omega))]
      simp only [parseF, pstep, (dig_of (u % 10) (by omega)).2]
      rw [if_neg (by omega)]
      simp only [Option.some.injEq]; omega
theorem parse_zeros (k : Nat) : parseF (List.replicate k 48) 0 = some 0 := by
  induction k with
  | zero => rfl
  | succ k ih =>
    rw [List.replicate_succ]
    simp only [parseF]
    have : pstep 0 48 = some 0 := by decide
    rw [this]; exact ih
theorem parse_pad (d u : Nat) (hu : u < 18446744073709551616) : parseF (padD d (Lib.decDigits u)) 0 = some u := by
  unfold padD
  rw [parseF_append _ _ _ _ (parse_zeros _)]
  exact parse_dec u hu
theorem pad_ne (d u : Nat) : padD d (Lib.decDigits u) ≠ [] := by
  intro h
  have h1 := congrArg List.length h
  unfold padD at h1
  rw [List.length_append, Lib.decDigits_length] at h1
  have := Lib.nDigits_pos u
  simp only [List.length_nil] at h1
  omega
/-- A text of a sum that is not below 0 begins with a digit. -/
theorem txtN_head (u d : Nat) : ∃ c l, txtN u d = c :: l ∧ isDig c := by
  have hd := pad_digs d u
  have hn := pad_ne d u
  have hlen : d + 1 ≤ (padD d (Lib.decDigits u)).length := by
    unfold padD; rw [List.length_append, List.length_replicate]; omega
  unfold txtN dotted
  generalize padD d (Lib.decDigits u) = P at hd hn hlen
  cases P with
  | nil => exact absurd rfl hn
  | cons c l =>
    have hc := hd c (by simp)
    split
    · refine ⟨c, l.take (l.length - d) ++ 46 :: (c :: l).drop ((c :: l).length - d), ?_, hc⟩
      simp only [List.length_cons] at hlen ⊢
      rw [show l.length + 1 - d = (l.length - d) + 1 by omega, List.take_succ_cons, List.cons_append]
    · exact ⟨c, l, rfl, hc⟩
/-- The text is that of a: the sign, and what is parsed. -/
theorem read_of {a : Int} {d : Nat} (ha : -9223372036854775808 ≤ a ∧ a ≤ 9223372036854775807) : Lib.hasPrefix (txtC a d) [45] = decide (a < 0) ∧ parseF (stripDot (Lib.trimPrefix (txtC a d) [45])) 0 = some (mag a) := by
  have hm := mag_le ha.1 ha.2
  unfold txtC
  by_cases h : a < 0
  · rw [if_pos h]
    have hp : Lib.hasPrefix (45 :: txtN (mag a) d) [45] = true := by simp [Lib.hasPrefix, List.isPrefixOf]
    refine ⟨by rw [hp, decide_eq_true h], ?_⟩
    unfold Lib.trimPrefix
    rw [if_pos hp]
    simp only [List.length_cons, List.length_nil, Nat.zero_add, List.drop_succ_cons, List.drop_zero]
    rw [strip_txtN, parse_pad _ _ (by omega)]
  · rw [if_neg h]
    obtain ⟨c, l, e, hc⟩ := txtN_head (mag a) d
    have hp : Lib.hasPrefix (txtN (mag a) d) [45] = false := by
      rw [e]
      simp only [Lib.hasPrefix, List.isPrefixOf, Bool.and_true, beq_eq_false_iff_ne, ne_eq]
      rintro rfl
      unfold isDig at hc
      revert hc; decide
    refine ⟨by rw [hp, decide_eq_false h], ?_⟩
    unfold Lib.trimPrefix
    rw [hp, if_neg (by decide), strip_txtN, parse_pad _ _ (by omega)]
theorem split_dot : ∀ (l : List UInt8), (46 : UInt8) ∈ l → ∃ H T, l = H ++ 46 :: T ∧ (46 : UInt8) ∉ H := by
  intro l
  induction l with
  | nil => intro h; simp at h
  | cons c l ih =>
    intro h
    by_cases hc : c = 46
    · exact ⟨[], l, by rw [hc]; rfl, by simp⟩
    · have hm : (46 : UInt8) ∈ l := by
        rcases List.mem_cons.1 h with h | h
        · exact absurd h.symm hc
        · exact h
      obtain ⟨H, T, e, hH⟩ := ih hm
      exact ⟨c :: H, T, by rw [e]; rfl, fun h => by
        rcases List.mem_cons.1 h with h | h
        · exact hc h.symm
        · exact hH h⟩
theorem strip_len (l : List UInt8) : (stripDot l).length ≤ l.length := by
  by_cases h : (46 : UInt8) ∈ l
  · obtain ⟨H, T, e, hH⟩ := split_dot l h
    rw [e, strip_at hH]; simp
  · rw [strip_none h]; omega
end Go.Proofs.YthoedngacopaiaaDoor
