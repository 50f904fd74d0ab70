/-
  Knots, plain: each place stands in one knot; which one; none waits for a later one.
-/
import Derived.Test.YtenlpklgpcnfiaaKnB
namespace Go.Proofs.Ytenlpklgpcnfiaa
set_option linter.unusedVariables false
theorem knot_sorted (g : List (List Int)) (i : Nat) : (knotOf g i).Pairwise (· < ·) := (List.pairwise_lt_range).filter _
theorem knot_nodup (g : List (List Int)) (i : Nat) : (knotOf g i).Nodup := (knot_sorted g i).imp fun {a b} h e => by omega
structure KFacts (g : List (List Int)) (D : Nat → Prop) (ks : List (List Nat)) : Prop where
  row : ∀ (j : Nat) (K : List Nat), ks[j]? = some K → ∃ i, i < g.length ∧ ¬ D i ∧ i ∈ K ∧ K = knotOf g i
  all : ∀ v, v < g.length → ¬ D v → ∃ (j : Nat) (K : List Nat), ks[j]? = some K ∧ v ∈ K
  nd : ks.flatten.Nodup
  notD : ∀ v ∈ ks.flatten, ¬ D v ∧ v < g.length
  one : ∀ (j1 j2 : Nat) (K1 K2 : List Nat) (v : Nat), ks[j1]? = some K1 → v ∈ K1 → ks[j2]? = some K2 → v ∈ K2 → j1 = j2
  back : ∀ (j : Nat) (K : List Nat) (v k : Nat), ks[j]? = some K → v ∈ K → RT g v k → D k ∨ ∃ (j2 : Nat) (K2 : List Nat), j2 ≤ j ∧ ks[j2]? = some K2 ∧ k ∈ K2
theorem kseq_facts {g : List (List Int)} {D : Nat → Prop} {ks : List (List Nat)} (h : KSeq g D ks) (hD : ∀ v k, D v → RT g v k → D k) : KFacts g D ks := by
  induction h with
  | nil h => exact ⟨fun j K h => (by simp at h), fun v hv hd => absurd (h v hv) hd, List.nodup_nil, fun v hv => (by cases hv), fun j1 j2 K1 K2 v h => (by simp at h), fun j K v k h => (by simp at h)⟩
  | @cons D i out f m k ih =>
    have hi : i ∈ knotOf g i := mem_knot.2 ⟨f.1, .refl _, .refl _⟩
    have hnD : ∀ v ∈ knotOf g i, ¬ D v := fun v hv hd => f.2.1 (hD v i hd (mem_knot.1 hv).2.2)
    have hD' : ∀ v k, (D v ∨ v ∈ knotOf g i) → RT g v k → (D k ∨ k ∈ knotOf g i) := fun v k hv hr => by
      rcases hv with hv | hv
      · exact .inl (hD v k hv hr)
      · obtain ⟨_, h1, h2⟩ := mem_knot.1 hv
        have h3 := h1.trans hr
        rcases f.2.2 k h3 with h4 | h4
        · exact .inl h4
        · exact .inr (mem_knot.2 ⟨h3.lt f.1, h3, h4⟩)
    have q := ih hD'
    refine ⟨?_, ?_, ?_, ?_, ?_, ?_⟩
    · intro j K hj
      cases j with
      | zero => simp at hj; subst hj; exact ⟨i, f.1, f.2.1, hi, rfl⟩
      | succ j =>
        obtain ⟨a, h1, h2, h3, h4⟩ := q.row j K (by simpa using hj)
        exact ⟨a, h1, fun hd => h2 (.inl hd), h3, h4⟩
    · intro v hv hd
      by_cases e : v ∈ knotOf g i
      · exact ⟨0, _, rfl, e⟩
      · obtain ⟨j, K, h1, h2⟩ := q.all v hv (fun h => h.elim hd e)
        exact ⟨j + 1, K, by simpa using h1, h2⟩
    · rw [List.flatten_cons, List.nodup_append]
      refine ⟨knot_nodup g i, q.nd, fun a ha b hb e => ?_⟩
      subst e
      exact (q.notD a hb).1 (.inr ha)
    · intro v hv
      rw [List.flatten_cons, List.mem_append] at hv
      rcases hv with hv | hv
      · exact ⟨hnD v hv, (mem_knot.1 hv).1⟩
      · exact ⟨fun hd => (q.notD v hv).1 (.inl hd), (q.notD v hv).2⟩
    · intro j1 j2 K1 K2 v h1 hv1 h2 hv2
      have hfl : ∀ (j : Nat) (K : List Nat), out[j]? = some K → v ∈ K → v ∈ out.flatten := fun j K hj hv => List.mem_flatten.2 ⟨K, List.mem_of_getElem? hj, hv⟩
      cases j1 with
      | zero =>
        cases j2 with
        | zero => rfl
        | succ j2 =>
          simp at h1 h2
          subst h1
          exact absurd (.inr hv1) (q.notD v (hfl j2 K2 h2 hv2)).1
      | succ j1 =>
        cases j2 with
        | zero =>
          simp at h1 h2
          subst h2
          exact absurd (.inr hv2) (q.notD v (hfl j1 K1 h1 hv1)).1
        | succ j2 =>
          simp at h1 h2
          rw [q.one j1 j2 K1 K2 v h1 hv1 h2 hv2]
    · intro j K v k h1 hv hr
      cases j with
      | zero =>
        simp at h1
        subst h1
        rcases hD' v k (.inr hv) hr with h2 | h2
        · exact .inl h2
        · exact .inr ⟨0, _, Nat.le_refl _, rfl, h2⟩
      | succ j =>
        simp at h1
        rcases q.back j K v k h1 hv hr with (h2 | h2) | ⟨j2, K2, h2, h3, h4⟩
        · exact .inl h2
        · exact .inr ⟨0, _, Nat.zero_le _, rfl, h2⟩
        · exact .inr ⟨j2 + 1, K2, by omega, by simpa using h3, h4⟩
section
variable {g : List (List Int)} {ks : List (List Nat)}
theorem knots_facts (h : KSeq g (fun _ => False) ks) : KFacts g (fun _ => False) ks := kseq_facts h fun _ _ h _ => h
open Classical in
/-- the number of a place's knot, and 1 -/
noncomputable def placeN (ks : List (List Nat)) (v : Nat) : Nat := if h : ∃ (j : Nat) (K : List Nat), ks[j]? = some K ∧ v ∈ K then h.choose + 1 else 0
theorem place_of (h : KFacts g (fun _ => False) ks) {j : Nat} {K : List Nat} {v : Nat} (hj : ks[j]? = some K) (hv : v ∈ K) : placeN ks v = j + 1 := by
  have hex : ∃ (j : Nat) (K : List Nat), ks[j]? = some K ∧ v ∈ K := ⟨j, K, hj, hv⟩
  unfold placeN
  rw [dif_pos hex]
  obtain ⟨K2, h1, h2⟩ := hex.choose_spec
  rw [h.one _ _ _ _ v h1 h2 hj hv]
theorem flat_len (h : KFacts g (fun _ => False) ks) : ks.flatten.length = g.length := by
  have h1 := pigeon (b := List.range g.length) h.nd fun v hv => List.mem_range.2 (h.notD v hv).2
  have h2 := pigeon (a := List.range g.length) (b := ks.flatten) List.nodup_range fun v hv => by
    obtain ⟨j, K, hj, hv2⟩ := h.all v (List.mem_range.1 hv) (fun h => h)
    exact List.mem_flatten.2 ⟨K, List.mem_of_getElem? hj, hv2⟩
  rw [List.length_range] at h1 h2
  omega
/-- none waits for one of a later knot -/
theorem place_le (h : KFacts g (fun _ => False) ks) {v k : Nat} (he : Edge g v k) : placeN ks k ≤ placeN ks v := by
  obtain ⟨j, K, hj, hv⟩ := h.all v he.lt.1 (fun h => h)
  rcases h.back j K v k hj hv (.one he) with h1 | ⟨j2, K2, h1, h2, h3⟩
  · exact h1.elim
  · rw [place_of h hj hv, place_of h h2 h3]; omega
theorem same_knot (h : KFacts g (fun _ => False) ks) {j : Nat} {K : List Nat} (hj : ks[j]? = some K) {u v : Nat} (hu : u ∈ K) (hv : v ∈ K) (hne : u ≠ v) : TC g u v := by
  obtain ⟨i, _, _, _, rfl⟩ := h.row j K hj
  obtain ⟨_, h1, h2⟩ := mem_knot.1 hu
  obtain ⟨_, h3, h4⟩ := mem_knot.1 hv
  rcases (h2.trans h3).cases_tc with e | e
  · exact absurd e hne
  · exact e
theorem row_sorted (h : KFacts g (fun _ => False) ks) {j : Nat} {K : List Nat} (hj : ks[j]? = some K) : K.Pairwise (· < ·) ∧ K ≠ [] := by
  obtain ⟨i, _, _, hi, rfl⟩ := h.row j K hj
  exact ⟨knot_sorted g i, fun e => by rw [e] at hi; cases hi⟩
/-- what has been passed, one more -/
theorem pass_one {j k p : Nat} {K : List Nat} (h : KFacts g (fun _ => False) ks) (hj : ks[j]? = some K) (hp : K[k]? = some p) : p ∉ (ks.take j).flatten ++ K.take k ∧ p < g.length ∧ K.take (k + 1) = K.take k ++ [p] := by
  have hpK : p ∈ K := List.mem_of_getElem? hp
  have hkl : k < K.length := by
    rcases Nat.lt_or_ge k K.length with h1 | h1
    · exact h1
    · rw [List.getElem?_eq_none h1] at hp; cases hp
  rw [List.getElem?_eq_getElem hkl] at hp
  injection hp with hp
  refine ⟨?_, (h.notD p (List.mem_flatten.2 ⟨K, List.mem_of_getElem? hj, hpK⟩)).2, by rw [List.take_succ_eq_append_getElem hkl, hp]⟩
  rw [List.mem_append]
  rintro (h1 | h1)
  · obtain ⟨K2, h2, h3⟩ := List.mem_flatten.1 h1
    obtain ⟨j2, hj2, h4⟩ := List.getElem_of_mem h2
    rw [List.length_take] at hj2
    have h5 : ks[j2]? = some K2 := by rw [List.getElem_take] at h4; rw [List.getElem?_eq_getElem (by omega), h4]
    have := h.one j2 j K2 K p h5 h3 hj hpK
    omega
  · obtain ⟨k2, hk2, h4⟩ := List.getElem_of_mem h1
    rw [List.length_take] at hk2
    rw [List.getElem_take] at h4
    have hs := (row_sorted h hj).1
    have := (List.pairwise_iff_getElem.1 hs) k2 k (by omega) hkl (by omega)
    omega
end
end Go.Proofs.Ytenlpklgpcnfiaa
