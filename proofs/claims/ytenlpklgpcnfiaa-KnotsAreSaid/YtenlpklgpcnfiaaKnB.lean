/-
  Knots, plain: which label comes next; members, and what a label waits for.
-/
import Derived.Test.YtenlpklgpcnfiaaKnS
namespace Go.Proofs.Ytenlpklgpcnfiaa
set_option linter.unusedVariables false
def DR (g : List (List Int)) (lab : Nat → Int) (R : List Nat) : Nat → Prop := fun v => v < g.length ∧ ∃ b ∈ R, lab v = (b : Int)
theorem DR_snoc (g : List (List Int)) (lab : Nat → Int) (R : List Nat) (a : Nat) : DR g lab (R ++ [a]) = fun v => DR g lab R v ∨ v ∈ memL g lab a := by
  funext v
  apply propext
  rw [mem_memL]
  unfold DR
  constructor
  · rintro ⟨h1, b, hb, e⟩
    rcases List.mem_append.1 hb with hb | hb
    · exact .inl ⟨h1, b, hb, e⟩
    · simp at hb; subst hb; exact .inr ⟨h1, e⟩
  · rintro (⟨h1, b, hb, e⟩ | ⟨h1, e⟩)
    · exact ⟨h1, b, List.mem_append_left _ hb, e⟩
    · exact ⟨h1, a, by simp, e⟩
theorem RT.lt {g : List (List Int)} {i k : Nat} (h : RT g i k) (hi : i < g.length) : k < g.length := by
  cases h with
  | refl => exact hi
  | step _ e => exact e.lt.2
theorem free_DR {g : List (List Int)} {lab : Nat → Int} {R : List Nat} {i : Nat} : Free g (DR g lab R) i ↔ Free g (fun v => ∃ b ∈ R, lab v = (b : Int)) i := by
  constructor
  · rintro ⟨h1, h2, h3⟩
    refine ⟨h1, fun h => h2 ⟨h1, h⟩, fun k hk => ?_⟩
    rcases h3 k hk with h | h
    · exact .inl h.2
    · exact .inr h
  · rintro ⟨h1, h2, h3⟩
    refine ⟨h1, fun h => h2 h.2, fun k hk => ?_⟩
    rcases h3 k hk with h | h
    · exact .inl ⟨hk.lt h1, h⟩
    · exact .inr h
structure Out (g : List (List Int)) (lab : Nat → Int) (m : Nat) (R : List Nat) : Prop where
  nd : R.Nodup
  lt : ∀ a ∈ R, a < m
  cl : ClosedR g lab R
  pre : KPre g (DR g lab []) (R.map (memL g lab)) (DR g lab R)
theorem Out.zero (g : List (List Int)) (lab : Nat → Int) (m : Nat) : Out g lab m [] :=
  ⟨List.nodup_nil, fun a h => (by cases h), fun v k h => (by obtain ⟨b, hb, _⟩ := h; cases hb), .nil⟩
theorem range_head {n : Nat} {p : Nat → Bool} {i : Nat} (h : ((List.range n).filter p).head? = some i) : ∀ j ∈ (List.range n).filter p, i ≤ j := by
  have hs : ((List.range n).filter p).Pairwise (· < ·) := (List.pairwise_lt_range).filter _
  generalize (List.range n).filter p = l at *
  cases l with
  | nil => cases h
  | cons x l =>
    injection h with h
    subst h
    intro j hj
    rcases List.mem_cons.1 hj with rfl | hj
    · exact Nat.le_refl _
    · exact Nat.le_of_lt ((List.pairwise_cons.1 hs).1 j hj)
theorem memL_head {g : List (List Int)} {lab : Nat → Int} {a i : Nat} (h : (memL g lab a).head? = some i) : i ∈ memL g lab a ∧ ∀ j ∈ memL g lab a, i ≤ j :=
  ⟨List.mem_of_mem_head? h, range_head h⟩
theorem memL_ne {g : List (List Int)} {lab : Nat → Int} {m a : Nat} (h : Lab g lab m) (ha : a < m) : ∃ i, (memL g lab a).head? = some i := by
  obtain ⟨v, hv, e⟩ := h.all a ha
  have : v ∈ memL g lab a := mem_memL.2 ⟨hv, e⟩
  generalize memL g lab a = l at *
  cases l with
  | nil => cases this
  | cons x l => exact ⟨x, rfl⟩
theorem Out.next {g : List (List Int)} {lab : Nat → Int} {m : Nat} {R : List Nat} (hL : Lab g lab m) (h : Out g lab m R) {a i : Nat} (hc : Cand g lab m R a) (hi : (memL g lab a).head? = some i)
    (hmin : ∀ b j, Cand g lab m R b → (memL g lab b).head? = some j → i ≤ j) : Out g lab m (R ++ [a]) := by
  obtain ⟨him, _⟩ := memL_head hi
  refine ⟨?_, ?_, cand_closed h.cl hc, ?_⟩
  · rw [List.nodup_append]
    refine ⟨h.nd, List.nodup_cons.2 ⟨by simp, List.nodup_nil⟩, fun x hx y hy e => ?_⟩
    simp at hy
    subst hy
    subst e
    exact hc.2.1 hx
  · intro x hx
    rcases List.mem_append.1 hx with hx | hx
    · exact h.lt x hx
    · simp at hx; subst hx; exact hc.1
  · rw [List.map_append, DR_snoc]
    have hk := memL_knot hL him
    show KPre g _ (R.map (memL g lab) ++ [memL g lab a]) _
    rw [hk]
    refine .snoc h.pre (free_DR.2 (cand_free hL h.cl hc him)) fun j hj => ?_
    obtain ⟨b, hb, hjb⟩ := free_cand hL (free_DR.1 hj)
    obtain ⟨j', hj'⟩ := memL_ne hL hb.1
    exact Nat.le_trans (hmin b j' hb hj') ((memL_head hj').2 j hjb)
theorem Out.done {g : List (List Int)} {lab : Nat → Int} {m : Nat} {R : List Nat} (hL : Lab g lab m) (h : Out g lab m R) (hm : m ≤ R.length) : KSeq g (fun _ => False) (R.map (memL g lab)) := by
  have hall := all_in h.nd h.lt hm
  have h1 : KSeq g (DR g lab R) [] := .nil fun v hv => by
    have := hL.lt v hv
    exact ⟨hv, (lab v).toNat, hall _ (by omega), by omega⟩
  have h2 := kpre_seq h.pre h1
  have h3 : DR g lab [] = fun _ => False := by
    funext v
    apply propext
    refine ⟨fun ⟨_, b, hb, _⟩ => (by cases hb), fun h => h.elim⟩
  rw [h3, List.append_nil] at h2
  exact h2
theorem Out.more {g : List (List Int)} {lab : Nat → Int} {m : Nat} {R : List Nat} (hL : Lab g lab m) (h : Out g lab m R) (hm : R.length < m) : ∃ a, Cand g lab m R a := by
  have : ∃ c, c < m ∧ c ∉ R := Classical.byContradiction fun hn => by
    have := pigeon (a := List.range m) (b := R) List.nodup_range fun s hs => Classical.byContradiction fun hs2 => hn ⟨s, List.mem_range.1 hs, hs2⟩
    rw [List.length_range] at this
    omega
  obtain ⟨c, hc, hcR⟩ := this
  exact cand_some hL c hc hcR
/-- the members so far; what a label waits for, of the places so far -/
def memI (lab : Nat → Int) (i a : Nat) : List Nat := (List.range i).filter fun v => decide (lab v = (a : Int))
theorem memI_full (g : List (List Int)) (lab : Nat → Int) (a : Nat) : memI lab g.length a = memL g lab a := rfl
theorem memI_succ (lab : Nat → Int) (i a : Nat) : memI lab (i + 1) a = if lab i = (a : Int) then memI lab i a ++ [i] else memI lab i a := by
  unfold memI
  rw [List.range_succ, List.filter_append]
  by_cases e : lab i = (a : Int) <;> simp [e]
def WaitI (g : List (List Int)) (lab : Nat → Int) (i a : Nat) (x : Int) : Prop := ∃ v k, v < i ∧ lab v = (a : Int) ∧ Edge g v k ∧ lab k ≠ (a : Int) ∧ x = lab k
theorem cand_iff {g : List (List Int)} {lab : Nat → Int} {m : Nat} {R : List Nat} {a : Nat} (ha : a < m) (haR : a ∉ R) {ws : List Int} (hw : ∀ x, x ∈ ws ↔ WaitI g lab g.length a x ∧ ¬ ∃ b ∈ R, x = ((b : Nat) : Int)) : ws = [] ↔ Cand g lab m R a := by
  constructor
  · rintro rfl
    refine ⟨ha, haR, fun v k hv e => ?_⟩
    by_cases h1 : lab k = (a : Int)
    · exact .inl h1
    · refine .inr (Classical.byContradiction fun hn => ?_)
      have := (hw (lab k)).2 ⟨⟨v, k, e.lt.1, hv, e, h1, rfl⟩, hn⟩
      cases this
  · rintro ⟨_, _, h⟩
    cases ws with
    | nil => rfl
    | cons x ws =>
      obtain ⟨⟨v, k, _, hv, e, h1, h2⟩, hn⟩ := (hw x).1 (by simp)
      rcases h v k hv e with h3 | h3
      · exact absurd h3 h1
      · obtain ⟨b, hb, e2⟩ := h3
        exact absurd ⟨b, hb, by rw [h2]; exact e2⟩ hn
end Go.Proofs.Ytenlpklgpcnfiaa
