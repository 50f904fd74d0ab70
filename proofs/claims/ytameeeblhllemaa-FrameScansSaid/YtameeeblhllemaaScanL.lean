/-
  Frames, as a function on lists: what is scanned of frames that are whole. No condition.
-/
import Derived.Test.YtameeeblhllemaaScanM
import Derived.Test.YtameeeblhllemaaWrap
namespace Go.Proofs.Ytameeeblhllemaa
section
variable {l r : List UInt8}
theorem num_frame (h : okL l) : num (frameOf l ++ r) = l.length := by
  obtain ⟨h1, h2⟩ := h
  simp [num, frameOf, fhead, by_toNat]
  omega
theorem sumOf_frame : sumOf (frameOf l ++ r) = crc l := by
  have := crc_lt l
  simp [sumOf, frameOf, fhead, by_toNat]
  omega
theorem body_frame (h : okL l) : body (frameOf l ++ r) = l := by
  unfold body
  rw [num_frame h]
  have e : frameOf l ++ r = fhead l ++ (l ++ r) := by simp [frameOf]
  rw [e, List.drop_left' (by rfl)]
  simp
theorem drop_frame : (frameOf l ++ r).drop (6 + l.length) = r := List.drop_left' (frameOf_length l)
theorem stop_frame (h : okL l) : stopE (frameOf l ++ r) = 0 := by
  have h' := h
  obtain ⟨h1, h2⟩ := h'
  refine stop_no ?_ ?_ ?_ ?_
  · rw [List.length_append, frameOf_length]; omega
  · rw [num_frame h]; omega
  · rw [num_frame h, List.length_append, frameOf_length]; omega
  · rw [body_frame h, sumOf_frame]
theorem scan_frame (h : okL l) (r : List UInt8) : scan (frameOf l ++ r) = (l :: (scan r).1, 6 + l.length + (scan r).2.1, (scan r).2.2) := by
  rw [scan_go _ (by rw [List.length_append, frameOf_length]; omega) (stop_frame h), num_frame h, body_frame h, drop_frame]
end
theorem scan_flat : ∀ (ls : List (List UInt8)) (r : List UInt8), (∀ l ∈ ls, okL l) → scan (ls.flatMap frameOf ++ r) = (ls ++ (scan r).1, (ls.flatMap frameOf).length + (scan r).2.1, (scan r).2.2) := by
  intro ls
  induction ls with
  | nil => intro r _; simp
  | cons l ls ih =>
    intro r h
    rw [List.flatMap_cons, List.append_assoc, scan_frame (h l (by simp)), ih r (fun x hx => h x (by simp [hx]))]
    simp [frameOf_length, Nat.add_assoc]
theorem scan_flat0 (ls : List (List UInt8)) (h : ∀ l ∈ ls, okL l) : scan (ls.flatMap frameOf) = (ls, (ls.flatMap frameOf).length, 0) := by
  have := scan_flat ls [] h
  rw [scan_nil [] rfl] at this
  simpa using this
theorem scanF_le : ∀ (f : Nat) (l : List UInt8), (scanF f l).1.length ≤ l.length ∧ (scanF f l).2.1 ≤ l.length := by
  intro f
  induction f with
  | zero => intro l; exact ⟨Nat.zero_le _, Nat.zero_le _⟩
  | succ f ih =>
    intro l
    simp only [scanF]
    by_cases h0 : l.length = 0
    · rw [if_pos h0]; exact ⟨Nat.zero_le _, Nat.zero_le _⟩
    · rw [if_neg h0]
      by_cases h1 : stopE l ≠ 0
      · rw [if_pos h1]; exact ⟨Nat.zero_le _, Nat.zero_le _⟩
      · rw [if_neg h1]
        have h2 : 6 + num l ≤ l.length := by
          rcases Nat.lt_or_ge l.length (6 + num l) with h | h
          · exfalso
            apply h1
            unfold stopE
            split <;> try omega
            split <;> try omega
          · exact h
        have := ih (l.drop (6 + num l))
        rw [List.length_drop] at this
        simp only [List.length_cons]
        omega
theorem scan_le (l : List UInt8) : (scan l).1.length ≤ l.length ∧ (scan l).2.1 ≤ l.length := scanF_le _ l
theorem crc_nine : crc [49, 50, 51, 52, 53, 54, 55, 56, 57] = 3421780262 := by kernel_rfl
end Go.Proofs.Ytameeeblhllemaa
