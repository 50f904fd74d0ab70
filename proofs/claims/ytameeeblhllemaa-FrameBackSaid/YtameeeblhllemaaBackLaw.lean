/-
  What is scanned of the first k bytes of frames. No condition.
-/
import Derived.Test.YtameeeblhllemaaScanL
namespace Go.Proofs.Ytameeeblhllemaa
def sz (ls : List (List UInt8)) (j : Nat) : Nat := ((ls.take j).flatMap frameOf).length
theorem sz_zero (ls : List (List UInt8)) : sz ls 0 = 0 := by simp [sz]
theorem sz_succ {ls : List (List UInt8)} {j : Nat} {x : List UInt8} (h : ls[j]? = some x) : sz ls (j + 1) = sz ls j + (6 + x.length) := by
  unfold sz
  rw [List.take_add_one, h, List.flatMap_append, List.length_append]
  simp [frameOf_length]
theorem sz_all (ls : List (List UInt8)) : sz ls ls.length = (ls.flatMap frameOf).length := by unfold sz; rw [List.take_length]
theorem torn_frame {x : List UInt8} (hx : okL x) (r : List UInt8) (t : Nat) (h0 : 0 < t) (ht : t < 6 + x.length) : scan ((frameOf x ++ r).take t) = ([], 0, 4) := by
  have hl : ((frameOf x ++ r).take t).length = t := by rw [List.length_take, List.length_append, frameOf_length]; omega
  have hs : stopE ((frameOf x ++ r).take t) = 4 := by
    by_cases h2 : t < 2
    · exact stop_short (by rw [hl]; exact h2)
    · have hn : num ((frameOf x ++ r).take t) = x.length := by
        rw [← num_frame (r := r) hx]
        unfold num
        have e : ∀ i, i < t → ((frameOf x ++ r).take t).getD i 0 = (frameOf x ++ r).getD i 0 := by
          intro i hi
          simp only [List.getD, List.getElem?_take]
          rw [if_pos hi]
        rw [e 0 (by omega), e 1 (by omega)]
      obtain ⟨g1, g2⟩ := hx
      refine stop_torn ?_ ?_ ?_
      · rw [hl]; exact h2
      · rw [hn]; omega
      · rw [hn, hl]; exact ht
  rw [scan_stop _ (by rw [hl]; exact h0) (by rw [hs]; omega), hs]
theorem back_law (ls : List (List UInt8)) (hok : ∀ l ∈ ls, okL l) (j k : Nat) (hj : j ≤ ls.length) (h1 : sz ls j ≤ k) (h2 : k ≤ sz ls ls.length) (h3 : j = ls.length ∨ k < sz ls (j + 1)) :
    scan ((ls.flatMap frameOf).take k) = (ls.take j, sz ls j, if sz ls j = k then 0 else 4) := by
  have hsplit : ls.flatMap frameOf = (ls.take j).flatMap frameOf ++ (ls.drop j).flatMap frameOf := by rw [← List.flatMap_append, List.take_append_drop]
  have ht : (ls.flatMap frameOf).take k = (ls.take j).flatMap frameOf ++ ((ls.drop j).flatMap frameOf).take (k - sz ls j) := by
    rw [hsplit, List.take_append]
    have : ((ls.take j).flatMap frameOf).take k = (ls.take j).flatMap frameOf := List.take_of_length_le h1
    rw [this]; rfl
  rw [ht, scan_flat _ _ (fun l hl => hok l (List.mem_of_mem_take hl))]
  by_cases he : sz ls j = k
  · have : k - sz ls j = 0 := by omega
    rw [this, List.take_zero, scan_nil [] rfl, if_pos he]
    simp [sz]
  · rw [if_neg he]
    have hjl : j < ls.length := by
      rcases h3 with h3 | h3
      · subst h3; omega
      · rcases Nat.lt_or_ge j ls.length with h | h
        · exact h
        · have : j = ls.length := by omega
          subst this; omega
    have hx : ls[j]? = some ls[j] := List.getElem?_eq_getElem hjl
    have hlt : k < sz ls j + (6 + (ls[j]).length) := by
      rcases h3 with h3 | h3
      · omega
      · rwa [sz_succ hx] at h3
    rw [List.drop_eq_getElem_cons hjl, List.flatMap_cons, torn_frame (hok _ (List.getElem_mem hjl)) _ _ (by omega) (by omega)]
    simp [sz]
end Go.Proofs.Ytameeeblhllemaa
