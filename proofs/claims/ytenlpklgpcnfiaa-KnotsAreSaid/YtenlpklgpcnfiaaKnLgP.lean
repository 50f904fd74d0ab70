/-
  KnotsLong, plain: a long row, and a ring.
-/
import Derived.Test.YtenlpklgpcnfiaaKnB
import Derived.Test.YtenlpklgpcnfiaaKnRe
namespace Go.Proofs.Ytenlpklgpcnfiaa
set_option linter.unusedVariables false
/-- row i of the long row -/
def rowL (n : Nat) (ring : Bool) (i : Nat) : List Int := if i + 1 < n then [((i + 1 : Nat) : Int), -1, (n : Int)] else if ring then [0] else []
def longG (n : Nat) (ring : Bool) : List (List Int) := (List.range n).map (rowL n ring)
theorem longG_len (n : Nat) (ring : Bool) : (longG n ring).length = n := by simp [longG]
theorem longG_get {n : Nat} {ring : Bool} {i : Nat} (h : i < n) : (longG n ring)[i]? = some (rowL n ring i) := by simp [longG, h]
theorem edge_long {n : Nat} {ring : Bool} {i k : Nat} : Edge (longG n ring) i k ↔ (i + 1 < n ∧ k = i + 1) ∨ (ring = true ∧ i + 1 = n ∧ k = 0) := by
  constructor
  · rintro ⟨l, h1, h2, h3⟩
    rw [longG_len] at h3
    have hi : i < n := by
      rcases Nat.lt_or_ge i n with h | h
      · exact h
      · rw [List.getElem?_eq_none (by rw [longG_len]; exact h)] at h1; cases h1
    rw [longG_get hi] at h1
    cases h1
    unfold rowL at h2
    split at h2
    · rename_i h4
      simp at h2
      exact .inl ⟨h4, by omega⟩
    · split at h2
      · rename_i h4 h5
        simp at h2
        exact .inr ⟨h5, by omega, by omega⟩
      · cases h2
  · rintro (⟨h1, rfl⟩ | ⟨h1, h2, rfl⟩)
    · exact ⟨_, longG_get (by omega), by unfold rowL; rw [if_pos h1]; simp, by rw [longG_len]; exact h1⟩
    · refine ⟨_, longG_get (by omega), ?_, by rw [longG_len]; omega⟩
      unfold rowL
      rw [if_neg (by omega), if_pos h1]
      simp
theorem rt_long {n : Nat} {ring : Bool} {a : Nat} : ∀ d, a + d < n → RT (longG n ring) a (a + d)
  | 0, _ => .refl _
  | d + 1, h => .step (rt_long d (by omega)) (edge_long.2 (.inl ⟨by omega, by omega⟩))
theorem rt_row {n : Nat} {a b : Nat} (h : RT (longG n false) a b) : a ≤ b := by
  induction h with
  | refl => exact Nat.le_refl _
  | step _ e ih =>
    rcases edge_long.1 e with ⟨_, h⟩ | ⟨h, _⟩
    · omega
    · cases h
theorem tc_row {n : Nat} {k : Nat} (hn : 0 < n) : TC (longG n false) 0 k ↔ 0 < k ∧ k < n := by
  constructor
  · rintro ⟨c, h1, h2⟩
    rcases edge_long.1 h1 with ⟨h3, rfl⟩ | ⟨h3, _⟩
    · refine ⟨by have := rt_row h2; omega, ?_⟩
      have := TC.lt ⟨_, h1, h2⟩
      rwa [longG_len] at this
    · cases h3
  · rintro ⟨h1, h2⟩
    have h3 := rt_long (n := n) (ring := false) (a := 1) (k - 1) (by omega)
    rw [show 1 + (k - 1) = k by omega] at h3
    exact ⟨1, edge_long.2 (.inl ⟨by omega, rfl⟩), h3⟩
theorem reach_row {n : Nat} (hn : 0 < n) : (reachL (longG n false) 0).length = n - 1 := by
  classical
  have e : reachL (longG n false) 0 = (List.range n).filter fun k => decide (0 < k) := by
    unfold reachL
    rw [longG_len]
    refine List.filter_congr fun k hk => ?_
    rw [List.mem_range] at hk
    rw [decide_eq_decide, tc_row hn]
    exact ⟨fun h => h.1, fun h => ⟨h, hk⟩⟩
  rw [e]
  obtain ⟨m, rfl⟩ : ∃ m, n = m + 1 := ⟨n - 1, by omega⟩
  rw [List.range_succ_eq_map, List.filter_cons]
  simp only [Nat.lt_irrefl, decide_false, Bool.false_eq_true, if_false, Nat.add_sub_cancel]
  rw [List.filter_eq_self.2 (fun x hx => by
    obtain ⟨y, _, rfl⟩ := List.mem_map.1 hx
    simp), List.length_map, List.length_range]
/-- the ring is one knot -/
theorem kseq_ring {n : Nat} (hn : 1 < n) : KSeq (longG n true) (fun _ => False) [List.range n] := by
  have hrt : ∀ u v, u < n → v < n → RT (longG n true) u v := fun u v hu hv => by
    have h1 := rt_long (n := n) (ring := true) (a := u) (n - 1 - u) (by omega)
    rw [show u + (n - 1 - u) = n - 1 by omega] at h1
    have h2 : Edge (longG n true) (n - 1) 0 := edge_long.2 (.inr ⟨rfl, by omega, rfl⟩)
    have h3 := rt_long (n := n) (ring := true) (a := 0) v (by omega)
    rw [Nat.zero_add] at h3
    exact (h1.trans (.one h2)).trans h3
  have hL : Lab (longG n true) (fun _ => 0) 1 := ⟨fun v _ => by omega, fun v k _ => Int.le_refl _, fun u v hu hv _ => by rw [longG_len] at hu hv; exact hrt u v hu hv, fun a ha => ⟨0, by rw [longG_len]; omega, by omega⟩⟩
  have hm : memL (longG n true) (fun _ => 0) 0 = List.range n := by
    unfold memL
    rw [longG_len]
    exact List.filter_eq_self.2 (fun x _ => by simp)
  have hc : Cand (longG n true) (fun _ => 0) 1 [] 0 := ⟨by decide, by simp, fun v k _ _ => .inl rfl⟩
  have hh : (List.range n).head? = some 0 := by
    obtain ⟨m, rfl⟩ : ∃ m, n = m + 1 := ⟨n - 1, by omega⟩
    rw [List.range_succ_eq_map]; rfl
  have o1 := (Out.zero (longG n true) (fun _ => 0) 1).next hL hc (i := 0) (by rw [hm]; exact hh) (fun b j hb hj => Nat.zero_le _)
  have := o1.done hL (by simp)
  simp only [List.nil_append, List.map_cons, List.map_nil, hm] at this
  exact this
theorem range_pick {n c : Nat} (h : c < n) : (List.range n).filter (fun v => decide (v = c)) = [c] := by
  induction n with
  | zero => omega
  | succ n ih =>
    rw [List.range_succ, List.filter_append]
    by_cases e : c = n
    · subst e
      have h1 : (List.range c).filter (fun v => decide (v = c)) = [] := by
        rw [List.filter_eq_nil_iff]
        intro x hx
        rw [List.mem_range] at hx
        simp; omega
      rw [h1]; simp
    · rw [ih (by omega)]
      have : (decide (n = c)) = false := by simp; omega
      simp [this]
def labR (n : Nat) : Nat → Int := fun v => (n : Int) - 1 - (v : Int)
theorem lab_row {n : Nat} : Lab (longG n false) (labR n) n := by
  refine ⟨fun v hv => ?_, fun v k e => ?_, fun u v hu hv e => ?_, fun a ha => ⟨n - 1 - a, by rw [longG_len]; omega, ?_⟩⟩
  · rw [longG_len] at hv; unfold labR; omega
  · rcases edge_long.1 e with ⟨h1, rfl⟩ | ⟨h1, _⟩
    · unfold labR; omega
    · cases h1
  · unfold labR at e
    obtain rfl : u = v := by omega
    exact .refl _
  · unfold labR; omega
theorem memL_row {n a : Nat} (ha : a < n) : memL (longG n false) (labR n) a = [n - 1 - a] := by
  unfold memL
  rw [longG_len, ← range_pick (n := n) (c := n - 1 - a) (by omega)]
  refine List.filter_congr fun v hv => ?_
  rw [List.mem_range] at hv
  rw [decide_eq_decide]
  unfold labR
  omega
theorem out_row {n : Nat} : ∀ j, j ≤ n → Out (longG n false) (labR n) n (List.range j)
  | 0, _ => Out.zero _ _ _
  | j + 1, h => by
    have ih := out_row (n := n) j (by omega)
    have hc : Cand (longG n false) (labR n) n (List.range j) j := by
      refine ⟨by omega, by simp, fun v k hv e => ?_⟩
      rcases edge_long.1 e with ⟨h1, rfl⟩ | ⟨h1, _⟩
      · refine .inr ⟨j - 1, List.mem_range.2 ?_, ?_⟩
        · unfold labR at hv; omega
        · unfold labR at hv ⊢; omega
      · cases h1
    have := ih.next lab_row hc (i := n - 1 - j) (by rw [memL_row (by omega)]; rfl) (fun b j' hb hj' => by
      obtain ⟨h1, h2, h3⟩ := hb
      have hbj : b ≤ j := by
        rcases Nat.lt_or_ge j b with h4 | h4
        · have he : Edge (longG n false) (n - 1 - b) (n - 1 - b + 1) := edge_long.2 (.inl ⟨by omega, rfl⟩)
          rcases h3 _ _ (by unfold labR; omega) he with h5 | ⟨x, hx, h5⟩
          · unfold labR at h5; omega
          · rw [List.mem_range] at hx
            unfold labR at h5; omega
        · exact h4
      have hjb : j ≤ b := by
        rcases Nat.lt_or_ge b j with h4 | h4
        · exact absurd (List.mem_range.2 h4) h2
        · exact h4
      obtain rfl : b = j := by omega
      rw [memL_row h1] at hj'
      cases hj'
      exact Nat.le_refl _)
    rw [List.range_succ]
    exact this
theorem kseq_row (n : Nat) : KSeq (longG n false) (fun _ => False) ((List.range n).map fun a => [n - 1 - a]) := by
  have h := (out_row (n := n) n (Nat.le_refl _)).done lab_row (by simp)
  have e : (List.range n).map (memL (longG n false) (labR n)) = (List.range n).map fun a => [n - 1 - a] :=
    List.map_congr_left fun a ha => memL_row (List.mem_range.1 ha)
  rw [e] at h
  exact h
end Go.Proofs.Ytenlpklgpcnfiaa
