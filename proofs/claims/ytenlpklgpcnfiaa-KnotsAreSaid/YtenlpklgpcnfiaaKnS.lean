/-
  Knots, plain: in which row the knots come; there is but one.
-/
import Derived.Test.YtenlpklgpcnfiaaKnR
namespace Go.Proofs.Ytenlpklgpcnfiaa
set_option linter.unusedVariables false
open Classical in
/-- the knot of a place -/
noncomputable def knotOf (g : List (List Int)) (i : Nat) : List Nat := (List.range g.length).filter fun v => decide (RT g i v ∧ RT g v i)
open Classical in
theorem mem_knot {g : List (List Int)} {i v : Nat} : v ∈ knotOf g i ↔ v < g.length ∧ RT g i v ∧ RT g v i := by
  unfold knotOf
  rw [List.mem_filter, List.mem_range, decide_eq_true_iff]
/-- a place that isn't done, and waits for none but such as are, and for its own knot -/
def Free (g : List (List Int)) (D : Nat → Prop) (i : Nat) : Prop := i < g.length ∧ ¬ D i ∧ ∀ k, RT g i k → D k ∨ RT g k i
inductive KSeq (g : List (List Int)) : (Nat → Prop) → List (List Nat) → Prop
  | nil {D : Nat → Prop} : (∀ v, v < g.length → D v) → KSeq g D []
  | cons {D : Nat → Prop} {i : Nat} {out : List (List Nat)} : Free g D i → (∀ j, Free g D j → i ≤ j) → KSeq g (fun v => D v ∨ v ∈ knotOf g i) out → KSeq g D (knotOf g i :: out)
theorem kseq_one {g : List (List Int)} {D : Nat → Prop} {a b : List (List Nat)} (ha : KSeq g D a) (hb : KSeq g D b) : a = b := by
  induction ha generalizing b with
  | nil h =>
    cases hb with
    | nil _ => rfl
    | cons f _ _ => exact absurd (h _ f.1) f.2.1
  | cons f m k ih =>
    cases hb with
    | nil h => exact absurd (h _ f.1) f.2.1
    | cons f2 m2 k2 =>
      have e := Nat.le_antisymm (m _ f2) (m2 _ f)
      subst e
      rw [ih k2]
section
variable {g : List (List Int)}
/-- a row of knots so far: from nothing to D -/
inductive KPre (g : List (List Int)) : (Nat → Prop) → List (List Nat) → (Nat → Prop) → Prop
  | nil {D : Nat → Prop} : KPre g D [] D
  | snoc {D E : Nat → Prop} {i : Nat} {out : List (List Nat)} : KPre g D out E → Free g E i → (∀ j, Free g E j → i ≤ j) → KPre g D (out ++ [knotOf g i]) (fun v => E v ∨ v ∈ knotOf g i)
theorem kpre_seq {D E : Nat → Prop} {out : List (List Nat)} (h : KPre g D out E) {rest : List (List Nat)} (hr : KSeq g E rest) : KSeq g D (out ++ rest) := by
  induction h generalizing rest with
  | nil => exact hr
  | snoc _ f m ih =>
    rw [List.append_assoc]
    exact ih (.cons f m hr)
/-- what a row of knots is: each place that isn't done stands in one, sorted, and waits for none of a later one -/
theorem kseq_mem {D : Nat → Prop} {out : List (List Nat)} (h : KSeq g D out) : (∀ K ∈ out, ∃ i, i < g.length ∧ ¬ D i ∧ i ∈ K ∧ K = knotOf g i) ∧ (∀ v, v < g.length → ¬ D v → ∃ K ∈ out, v ∈ K) ∧
    (∀ K ∈ out, ∀ v ∈ K, ¬ D v ∨ (∃ i, D i ∧ RT g i v ∧ RT g v i)) := by
  induction h with
  | nil h => exact ⟨fun K hK => (by cases hK), fun v hv hd => absurd (h v hv) hd, fun K hK => (by cases hK)⟩
  | @cons D i out f m k ih =>
    obtain ⟨h1, h2, h3⟩ := ih
    refine ⟨fun K hK => ?_, fun v hv hd => ?_, fun K hK v hv => ?_⟩
    · rcases List.mem_cons.1 hK with rfl | hK
      · exact ⟨i, f.1, f.2.1, mem_knot.2 ⟨f.1, .refl _, .refl _⟩, rfl⟩
      · obtain ⟨j, a, b, c, d⟩ := h1 K hK
        exact ⟨j, a, fun hh => b (.inl hh), c, d⟩
    · by_cases e : v ∈ knotOf g i
      · exact ⟨_, List.mem_cons_self, e⟩
      · obtain ⟨K, hK, hv2⟩ := h2 v hv (fun hh => hh.elim hd e)
        exact ⟨K, List.mem_cons_of_mem _ hK, hv2⟩
    · by_cases hd : D v
      · rcases List.mem_cons.1 hK with rfl | hK
        · have hm := mem_knot.1 hv
          exact .inr ⟨v, hd, .refl _, .refl _⟩
        · exact .inr ⟨v, hd, .refl _, .refl _⟩
      · exact .inl hd
end
/-- the members of a label -/
def memL (g : List (List Int)) (lab : Nat → Int) (a : Nat) : List Nat := (List.range g.length).filter fun v => decide (lab v = (a : Int))
theorem mem_memL {g : List (List Int)} {lab : Nat → Int} {a v : Nat} : v ∈ memL g lab a ↔ v < g.length ∧ lab v = (a : Int) := by
  unfold memL
  rw [List.mem_filter, List.mem_range, decide_eq_true_iff]
open Classical in
theorem memL_knot {g : List (List Int)} {lab : Nat → Int} {m a i : Nat} (h : Lab g lab m) (hi : i ∈ memL g lab a) : memL g lab a = knotOf g i := by
  obtain ⟨hi1, hi2⟩ := mem_memL.1 hi
  unfold memL knotOf
  refine List.filter_congr fun v hv => ?_
  rw [List.mem_range] at hv
  rw [decide_eq_decide, ← hi2]
  have := h.iff hi1 hv
  exact ⟨fun e => this.1 e.symm, fun e => (this.2 e).symm⟩
/-- a label that may come next, R being those that are out -/
def Cand (g : List (List Int)) (lab : Nat → Int) (m : Nat) (R : List Nat) (a : Nat) : Prop := a < m ∧ a ∉ R ∧ ∀ v k, lab v = (a : Int) → Edge g v k → lab k = (a : Int) ∨ ∃ b ∈ R, lab k = (b : Int)
/-- labels that are out wait for none that isn't -/
def ClosedR (g : List (List Int)) (lab : Nat → Int) (R : List Nat) : Prop := ∀ v k, (∃ b ∈ R, lab v = (b : Int)) → Edge g v k → ∃ b ∈ R, lab k = (b : Int)
theorem cand_free {g : List (List Int)} {lab : Nat → Int} {m : Nat} (h : Lab g lab m) {R : List Nat} (hc : ClosedR g lab R) {a i : Nat} (ha : Cand g lab m R a) (hi : i ∈ memL g lab a) : Free g (fun v => ∃ b ∈ R, lab v = (b : Int)) i := by
  obtain ⟨hi1, hi2⟩ := mem_memL.1 hi
  refine ⟨hi1, ?_, fun k hk => ?_⟩
  · rintro ⟨b, hb, e⟩
    rw [hi2] at e
    have : a = b := by omega
    exact ha.2.1 (this ▸ hb)
  · have : lab k = (a : Int) ∨ ∃ b ∈ R, lab k = (b : Int) := by
      induction hk with
      | refl => exact .inl hi2
      | step _ e ih =>
        rcases ih with ih | ih
        · exact ha.2.2 _ _ ih e
        · exact .inr (hc _ _ ih e)
    rcases this with h1 | h1
    · rcases hk.cases_tc with e | htc
      · subst e; exact .inr (.refl _)
      · exact .inr (h.eq k i htc.lt hi1 (by rw [h1, hi2]))
    · exact .inl h1
theorem free_cand {g : List (List Int)} {lab : Nat → Int} {m : Nat} (h : Lab g lab m) {R : List Nat} {j : Nat} (hf : Free g (fun v => ∃ b ∈ R, lab v = (b : Int)) j) : ∃ a, Cand g lab m R a ∧ j ∈ memL g lab a := by
  obtain ⟨hj, hd, hr⟩ := hf
  have hl := h.lt j hj
  refine ⟨(lab j).toNat, ⟨by omega, fun hm => hd ⟨_, hm, by omega⟩, fun v k hv e => ?_⟩, mem_memL.2 ⟨hj, by omega⟩⟩
  have hvj : lab j = lab v := by omega
  have := h.eq j v hj e.lt.1 hvj
  rcases hr k (.step this e) with h1 | h1
  · exact .inr h1
  · have h2 := h.rt h1
    have h3 := h.dn v k e
    exact .inl (by omega)
theorem cand_closed {g : List (List Int)} {lab : Nat → Int} {m : Nat} {R : List Nat} (hc : ClosedR g lab R) {a : Nat} (ha : Cand g lab m R a) : ClosedR g lab (R ++ [a]) := by
  rintro v k ⟨b, hb, e⟩ he
  rcases List.mem_append.1 hb with hb | hb
  · obtain ⟨c, hc1, hc2⟩ := hc v k ⟨b, hb, e⟩ he
    exact ⟨c, List.mem_append_left _ hc1, hc2⟩
  · simp at hb; subst hb
    rcases ha.2.2 v k e he with h1 | ⟨c, hc1, hc2⟩
    · exact ⟨b, by simp, h1⟩
    · exact ⟨c, List.mem_append_left _ hc1, hc2⟩
/-- while one is left, one may come next -/
theorem cand_some {g : List (List Int)} {lab : Nat → Int} {m : Nat} (h : Lab g lab m) {R : List Nat} : ∀ c, c < m → c ∉ R → ∃ a, Cand g lab m R a := by
  intro c
  induction c using Nat.strongRecOn with
  | _ c ih =>
    intro hc hcR
    by_cases e : Cand g lab m R c
    · exact ⟨c, e⟩
    · have : ∃ v k, lab v = (c : Int) ∧ Edge g v k ∧ ¬ (lab k = (c : Int) ∨ ∃ b ∈ R, lab k = (b : Int)) := Classical.byContradiction fun hn => e ⟨hc, hcR, fun v k h1 h2 => Classical.byContradiction fun h3 => hn ⟨v, k, h1, h2, h3⟩⟩
      obtain ⟨v, k, h1, h2, h3⟩ := this
      have h4 := h.dn v k h2
      have h5 := h.lt k h2.lt.2
      have h6 : lab k ≠ (c : Int) := fun hh => h3 (.inl hh)
      exact ih (lab k).toNat (by omega) (by omega) fun hm => h3 (.inr ⟨_, hm, by omega⟩)
theorem pigeon : ∀ {a b : List Nat}, a.Nodup → (∀ s ∈ a, s ∈ b) → a.length ≤ b.length
  | [], _, _, _ => Nat.zero_le _
  | x :: a, b, h, hm => by
    rw [List.nodup_cons] at h
    have h1 : x ∈ b := hm x (by simp)
    have := pigeon (a := a) (b := b.erase x) h.2 fun s hs => (List.mem_erase_of_ne (fun e : s = x => h.1 (by rw [← e]; exact hs))).2 (hm s (List.mem_cons_of_mem _ hs))
    rw [List.length_erase_of_mem h1] at this
    have := List.length_pos_of_mem h1
    rw [List.length_cons]
    omega
theorem all_in {R : List Nat} {m : Nat} (hn : R.Nodup) (hl : ∀ a ∈ R, a < m) (he : m ≤ R.length) : ∀ a, a < m → a ∈ R := by
  intro a ha
  refine Classical.byContradiction fun hna => ?_
  have := pigeon (a := a :: R) (b := List.range m) (List.nodup_cons.2 ⟨hna, hn⟩) fun s hs => by
    rcases List.mem_cons.1 hs with rfl | hs
    · exact List.mem_range.2 ha
    · exact List.mem_range.2 (hl s hs)
  rw [List.length_cons, List.length_range] at this
  omega
end Go.Proofs.Ytenlpklgpcnfiaa
