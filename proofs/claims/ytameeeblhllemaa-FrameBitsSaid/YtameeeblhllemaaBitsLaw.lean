/-
  A frame of which one byte behind its length is another one: nothing is scanned. No condition.
-/
import Derived.Test.YtameeeblhllemaaCrcLaw
import Derived.Test.YtameeeblhllemaaScanL
namespace Go.Proofs.Ytameeeblhllemaa
theorem getD_set (l : List UInt8) (j i : Nat) (c d : UInt8) (hj : j < l.length) : (l.set j c).getD i d = if j = i then c else l.getD i d := by
  simp only [List.getD, List.getElem?_set]
  split
  · rename_i h; subst h; simp
  · rfl
theorem bits_law (l : List UInt8) (h : okL l) (j : Nat) (c : UInt8) (h2 : 2 ≤ j) (hj : j < 6 + l.length) (hc : c ≠ (frameOf l).getD j 0) : scan ((frameOf l).set j c) = ([], 0, 3) := by
  have hlen := frameOf_length l
  have hl2 : ((frameOf l).set j c).length = 6 + l.length := by rw [List.length_set, hlen]
  have hjl : j < (frameOf l).length := by rw [hlen]; exact hj
  have hnum : num ((frameOf l).set j c) = l.length := by
    have e := num_frame (r := []) h
    rw [List.append_nil] at e
    rw [← e]
    unfold num
    rw [getD_set _ _ _ _ _ hjl, getD_set _ _ _ _ _ hjl, if_neg (by omega), if_neg (by omega)]
  have hsum : sumOf (frameOf l) = crc l := by have := sumOf_frame (l := l) (r := []); rwa [List.append_nil] at this
  have hs : stopE ((frameOf l).set j c) = 3 := by
    obtain ⟨g1, g2⟩ := h
    refine stop_sum ?_ ?_ ?_ ?_
    · rw [hl2]; omega
    · rw [hnum]; omega
    · rw [hnum, hl2]; omega
    · unfold body
      rw [hnum]
      have hd : (frameOf l).drop 6 = l := by rw [frameOf]; exact List.drop_left' rfl
      have hne : c.toNat ≠ ((frameOf l).getD j 0).toNat := fun e => hc (UInt8.toNat_inj.1 e)
      by_cases h6 : j < 6
      · have e1 : ((frameOf l).set j c).drop 6 = l := by
          rw [List.drop_set_of_lt (by omega), hd]
        rw [e1, List.take_of_length_le (Nat.le_refl _), ← hsum]
        unfold sumOf
        simp only [getD_set _ _ _ _ _ hjl]
        have b2 := ((frameOf l).getD 2 0).toNat_lt
        have b3 := ((frameOf l).getD 3 0).toNat_lt
        have b4 := ((frameOf l).getD 4 0).toNat_lt
        have b5 := ((frameOf l).getD 5 0).toNat_lt
        have bc := c.toNat_lt
        have hj4 : j = 2 ∨ j = 3 ∨ j = 4 ∨ j = 5 := by omega
        rcases hj4 with rfl | rfl | rfl | rfl <;> simp only [if_true, if_neg (show ¬ (2:Nat) = 3 by omega), if_neg (show ¬ (2:Nat) = 4 by omega), if_neg (show ¬ (2:Nat) = 5 by omega), if_neg (show ¬ (3:Nat) = 2 by omega), if_neg (show ¬ (3:Nat) = 4 by omega), if_neg (show ¬ (3:Nat) = 5 by omega), if_neg (show ¬ (4:Nat) = 2 by omega), if_neg (show ¬ (4:Nat) = 3 by omega), if_neg (show ¬ (4:Nat) = 5 by omega), if_neg (show ¬ (5:Nat) = 2 by omega), if_neg (show ¬ (5:Nat) = 3 by omega), if_neg (show ¬ (5:Nat) = 4 by omega)] <;> omega
      · have e1 : ((frameOf l).set j c).drop 6 = l.set (j - 6) c := by
          rw [List.drop_set, if_neg h6, hd]
        rw [e1, List.take_of_length_le (by rw [List.length_set]; exact Nat.le_refl _)]
        have e2 : sumOf ((frameOf l).set j c) = crc l := by
          rw [← hsum]
          unfold sumOf
          simp only [getD_set _ _ _ _ _ hjl]
          rw [if_neg (by omega), if_neg (by omega), if_neg (by omega), if_neg (by omega)]
        rw [e2]
        intro hcc
        have hk : j - 6 < l.length := by omega
        have h3 := (crc_set l (j - 6) c hk).1 hcc
        apply hc
        rw [h3]
        have e4 : (frameOf l).getD j 0 = ((frameOf l).drop 6).getD (j - 6) 0 := by
          simp only [List.getD, List.getElem?_drop]
          rw [show 6 + (j - 6) = j by omega]
        rw [e4, hd]
        simp [List.getD, hk]
  rw [scan_stop _ (by rw [hl2]; omega) (by rw [hs]; omega), hs]
end Go.Proofs.Ytameeeblhllemaa
