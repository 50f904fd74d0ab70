/-
  The reference's Knots, plain: which place is free, and the next one.
-/
import Derived.Test.YtenlpklgpcnfiaaKnRo
namespace Go.Proofs.Ytenlpklgpcnfiaa
set_option linter.unusedVariables false
open Classical in
noncomputable def freeP (g : List (List Int)) (dn : Nat → Bool) (i k : Nat) : Bool := !dn i && decide (∀ v, v < k → TC g i v → ¬ TC g v i → dn v = true)
section
variable {g : List (List Int)} {dn : Nat → Bool} {i k : Nat}
open Classical in
theorem freeP_zero : freeP g dn i 0 = !dn i := by
  unfold freeP
  rw [decide_eq_true (fun v h => absurd h (Nat.not_lt_zero v)), Bool.and_true]
theorem freeP_keep (h : TC g i k → ¬ TC g k i → dn k = true) : freeP g dn i (k + 1) = freeP g dn i k := by
  unfold freeP
  congr 1
  rw [decide_eq_decide]
  exact ⟨fun h1 v hv => h1 v (by omega), fun h1 v hv ht => by
    by_cases e : v = k
    · subst e; exact h ht
    · exact h1 v (by omega) ht⟩
open Classical in
theorem freeP_no (h : TC g i k) (h2 : ¬ TC g k i) (hk : dn k = false) : freeP g dn i (k + 1) = false := by
  unfold freeP
  rw [decide_eq_false (fun h1 => by rw [h1 k (by omega) h h2] at hk; cases hk), Bool.and_false]
open Classical in
theorem freeP_full (hi : i < g.length) : freeP g dn i g.length = true ↔ Free g (fun v => dn v = true) i := by
  unfold freeP
  rw [Bool.and_eq_true, decide_eq_true_iff]
  constructor
  · rintro ⟨h1, h2⟩
    refine ⟨hi, by simpa using h1, fun k hk => ?_⟩
    rcases hk.cases_tc with e | htc
    · subst e; exact .inr (.refl _)
    · by_cases hb : TC g k i
      · exact .inr hb.rt
      · exact .inl (h2 k htc.lt htc hb)
  · rintro ⟨_, h1, h2⟩
    refine ⟨by simpa using h1, fun v _ htc hnb => ?_⟩
    rcases h2 v htc.rt with h3 | h3
    · exact h3
    · rcases h3.cases_tc with e | h4
      · subst e; exact absurd htc hnb
      · exact absurd h4 hnb
end
/-- the least free place from i on, or -1 -/
def NextAt (g : List (List Int)) (dn : Nat → Bool) (i : Nat) (nx : Int) : Prop :=
  (nx = -1 ∧ ∀ j, i ≤ j → ¬ Free g (fun v => dn v = true) j) ∨ (∃ x : Nat, nx = (x : Int) ∧ Free g (fun v => dn v = true) x ∧ i ≤ x ∧ ∀ j, i ≤ j → Free g (fun v => dn v = true) j → x ≤ j)
theorem NextAt.start {g : List (List Int)} {dn : Nat → Bool} : NextAt g dn g.length (-1) := .inl ⟨rfl, fun j hj h => by have := h.1; omega⟩
theorem NextAt.no {g : List (List Int)} {dn : Nat → Bool} {i : Nat} {nx : Int} (h : NextAt g dn (i + 1) nx) (hf : ¬ Free g (fun v => dn v = true) i) : NextAt g dn i nx := by
  have key : ∀ j, i ≤ j → Free g (fun v => dn v = true) j → i + 1 ≤ j := fun j hj hj2 => by
    rcases Nat.lt_or_ge i j with h1 | h1
    · exact h1
    · obtain rfl : j = i := by omega
      exact absurd hj2 hf
  rcases h with ⟨h1, h2⟩ | ⟨x, h1, h2, h3, h4⟩
  · exact .inl ⟨h1, fun j hj hj2 => h2 j (key j hj hj2) hj2⟩
  · exact .inr ⟨x, h1, h2, by omega, fun j hj hj2 => h4 j (key j hj hj2) hj2⟩
theorem NextAt.yes {g : List (List Int)} {dn : Nat → Bool} {i : Nat} (hf : Free g (fun v => dn v = true) i) : NextAt g dn i (i : Int) :=
  .inr ⟨i, rfl, hf, Nat.le_refl _, fun _ h _ => h⟩
/-- what is next: none left, or the next knot's least place -/
theorem NextAt.seq {g : List (List Int)} {dn : Nat → Bool} {nx : Int} {ks : List (List Nat)} (h : NextAt g dn 0 nx) (hk : KSeq g (fun v => dn v = true) ks) :
    (nx = -1 ∧ ks = []) ∨ ∃ (x : Nat) (rest : List (List Nat)), nx = (x : Int) ∧ x < g.length ∧ dn x = false ∧ ks = knotOf g x :: rest ∧ KSeq g (fun v => dn v = true ∨ v ∈ knotOf g x) rest := by
  rcases h with ⟨h1, h2⟩ | ⟨x, h1, h2, _, h4⟩
  · cases hk with
    | nil _ => exact .inl ⟨h1, rfl⟩
    | cons f _ _ => exact absurd f (h2 _ (Nat.zero_le _))
  · cases hk with
    | nil hh => exact absurd (hh x h2.1) h2.2.1
    | @cons D i out f m k =>
      obtain rfl : x = i := Nat.le_antisymm (h4 i (Nat.zero_le _) f) (m x h2)
      exact .inr ⟨x, _, h1, h2.1, by simpa using h2.2.1, rfl, k⟩
open Classical in
noncomputable def inK (g : List (List Int)) (x : Nat) : Nat → Bool := fun v => decide (v ∈ knotOf g x)
theorem inK_iff {g : List (List Int)} {x v : Nat} (hv : v < g.length) : inK g x v = true ↔ v = x ∨ (TC g x v ∧ TC g v x) := by
  unfold inK
  rw [decide_eq_true_iff, mem_knot]
  constructor
  · rintro ⟨_, h1, h2⟩
    rcases h1.cases_tc with e | h3
    · exact .inl e.symm
    · rcases h2.cases_tc with e | h4
      · exact .inl e
      · exact .inr ⟨h3, h4⟩
  · rintro (rfl | ⟨h1, h2⟩)
    · exact ⟨hv, .refl _, .refl _⟩
    · exact ⟨hv, h1.rt, h2.rt⟩
theorem pick_knot {g : List (List Int)} {x : Nat} : pickI (inK g x) g.length = knotOf g x := by
  unfold pickI
  conv => rhs; unfold knotOf
  refine List.filter_congr fun v hv => ?_
  rw [List.mem_range] at hv
  unfold inK
  rw [decide_eq_decide, mem_knot]
  exact ⟨fun h => h.2, fun h => ⟨hv, h⟩⟩
theorem kseq_dn {g : List (List Int)} {dn dn' : Nat → Bool} {x : Nat} {rest : List (List Nat)} (h : KSeq g (fun v => dn v = true ∨ v ∈ knotOf g x) rest) (hd : ∀ v, v < g.length → dn' v = (dn v || inK g x v)) : KSeq g (fun v => dn' v = true) rest := by
  have key : ∀ {D D' : Nat → Prop} {ks : List (List Nat)}, KSeq g D ks → (∀ v, v < g.length → (D v ↔ D' v)) → KSeq g D' ks := by
    intro D D' ks h
    induction h generalizing D' with
    | nil h => exact fun e => .nil fun v hv => (e v hv).1 (h v hv)
    | @cons D i out f m k ih =>
      intro e
      have ff : ∀ j, Free g D j ↔ Free g D' j := fun j => by
        constructor
        · rintro ⟨a, b, c⟩
          exact ⟨a, fun hh => b ((e j a).2 hh), fun k hk => (c k hk).imp (fun hd => (e k (hk.lt a)).1 hd) id⟩
        · rintro ⟨a, b, c⟩
          exact ⟨a, fun hh => b ((e j a).1 hh), fun k hk => (c k hk).imp (fun hd => (e k (hk.lt a)).2 hd) id⟩
      exact .cons ((ff i).1 f) (fun j hj => m j ((ff j).2 hj)) (ih fun v hv => by show (D v ∨ v ∈ knotOf g i) ↔ _; rw [e v hv])
  refine key h fun v hv => ?_
  rw [hd v hv, Bool.or_eq_true]
  unfold inK
  rw [decide_eq_true_iff]
theorem rdi_rowT {w : World} {A : Option Addr} {n : Nat} {l : List Int} (h : RdI w A n l) (hn : 0 < n) {M m : Nat} {t : TypeId} {s : Nat → Bool} (hb : Blk w M t (rowT m s)) : ¬ fp A M := by
  obtain ⟨b, o, hA, hl, hc⟩ := rdi_get h hn
  rintro ⟨a, ha, rfl⟩
  rw [hA] at ha
  cases ha
  rw [hb.cell] at hc
  have hs : o + 0 < m := by
    rcases Nat.lt_or_ge (o + 0) m with h1 | h1
    · exact h1
    · rw [Array.getElem?_eq_none (by rw [rowT_size]; exact h1)] at hc; cases hc
  rw [rowT_get s hs] at hc
  cases hc
end Go.Proofs.Ytenlpklgpcnfiaa
