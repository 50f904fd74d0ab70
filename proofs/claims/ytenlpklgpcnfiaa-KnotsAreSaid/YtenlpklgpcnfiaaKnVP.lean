/-
  Knots, plain: three small graphs.
-/
import Derived.Test.YtenlpklgpcnfiaaKnB
import Derived.Test.YtenlpklgpcnfiaaKnO
namespace Go.Proofs.Ytenlpklgpcnfiaa
set_option linter.unusedVariables false
def gL : List (List Int) := [[1], [2], [1]]
theorem edge_gL {i k : Nat} : Edge gL i k ↔ (i = 0 ∧ k = 1) ∨ (i = 1 ∧ k = 2) ∨ (i = 2 ∧ k = 1) := by
  constructor
  · rintro ⟨l, h1, h2, _⟩
    unfold gL at h1
    match i, h1 with
    | 0, h1 => simp at h1; subst h1; simp at h2; omega
    | 1, h1 => simp at h1; subst h1; simp at h2; omega
    | 2, h1 => simp at h1; subst h1; simp at h2; omega
    | i + 3, h1 => simp at h1
  · rintro (⟨rfl, rfl⟩ | ⟨rfl, rfl⟩ | ⟨rfl, rfl⟩)
    · exact ⟨[1], rfl, by simp, by decide⟩
    · exact ⟨[2], rfl, by simp, by decide⟩
    · exact ⟨[1], rfl, by simp, by decide⟩
theorem rt_gL {i k : Nat} (h : RT gL i k) : i ≠ 0 → k ≠ 0 := by
  induction h with
  | refl => exact id
  | step _ e ih => intro _; rcases edge_gL.1 e with ⟨_, rfl⟩ | ⟨_, rfl⟩ | ⟨_, rfl⟩ <;> decide
theorem rt12 : RT gL 1 2 := .one (edge_gL.2 (.inr (.inl ⟨rfl, rfl⟩)))
theorem rt21 : RT gL 2 1 := .one (edge_gL.2 (.inr (.inr ⟨rfl, rfl⟩)))
theorem rt01 : RT gL 0 1 := .one (edge_gL.2 (.inl ⟨rfl, rfl⟩))
def labL : Nat → Int := fun v => if v = 0 then 1 else 0
theorem lab_gL : Lab gL labL 2 := by
  refine ⟨fun v _ => ?_, fun v k e => ?_, fun u v hu hv e => ?_, fun a ha => ?_⟩
  · unfold labL; split <;> omega
  · rcases edge_gL.1 e with ⟨rfl, rfl⟩ | ⟨rfl, rfl⟩ | ⟨rfl, rfl⟩ <;> decide
  · have hu' : u < 3 := hu
    have hv' : v < 3 := hv
    have h0 : RT gL 0 0 := .refl 0
    have h1 : RT gL 1 1 := .refl 1
    have h2 : RT gL 2 2 := .refl 2
    match u, v, hu', hv', e with
    | 0, 0, _, _, _ => exact h0
    | 1, 1, _, _, _ => exact h1
    | 2, 2, _, _, _ => exact h2
    | 1, 2, _, _, _ => exact rt12
    | 2, 1, _, _, _ => exact rt21
    | 0, 1, _, _, e => exact absurd e (by decide)
    | 0, 2, _, _, e => exact absurd e (by decide)
    | 1, 0, _, _, e => exact absurd e (by decide)
    | 2, 0, _, _, e => exact absurd e (by decide)
  · match a, ha with
    | 0, _ => exact ⟨1, by decide, by decide⟩
    | 1, _ => exact ⟨0, by decide, by decide⟩
theorem memL_0 : memL gL labL 0 = [1, 2] := by decide
theorem memL_1 : memL gL labL 1 = [0] := by decide
theorem kseq_gL : KSeq gL (fun _ => False) [[1, 2], [0]] := by
  have c0 : Cand gL labL 2 [] 0 := ⟨by decide, by simp, fun v k hv e => by
    rcases edge_gL.1 e with ⟨rfl, rfl⟩ | ⟨rfl, rfl⟩ | ⟨rfl, rfl⟩
    · exact absurd hv (by decide)
    · exact .inl (by decide)
    · exact .inl (by decide)⟩
  have n1 : ¬ Cand gL labL 2 [] 1 := fun h => by
    rcases h.2.2 0 1 (by decide) (edge_gL.2 (.inl ⟨rfl, rfl⟩)) with h1 | ⟨b, hb, _⟩
    · exact absurd h1 (by decide)
    · cases hb
  have o1 := (Out.zero gL labL 2).next lab_gL c0 (i := 1) (by rw [memL_0]; rfl) (fun b j hb hj => by
    have hb2 := hb.1
    match b, hb2, hb, hj with
    | 0, _, _, hj => rw [memL_0] at hj; cases hj; exact Nat.le_refl _
    | 1, _, hb, _ => exact absurd hb n1)
  have c1 : Cand gL labL 2 [0] 1 := ⟨by decide, by simp, fun v k hv e => by
    rcases edge_gL.1 e with ⟨rfl, rfl⟩ | ⟨rfl, rfl⟩ | ⟨rfl, rfl⟩
    · exact .inr ⟨0, by simp, by decide⟩
    · exact absurd hv (by decide)
    · exact absurd hv (by decide)⟩
  have o2 := Out.next lab_gL o1 c1 (i := 0) (by rw [memL_1]; rfl) (fun b j hb hj => Nat.zero_le _)
  have := o2.done lab_gL (by decide)
  simp only [List.nil_append, List.map_cons, List.map_nil, List.cons_append, memL_0, memL_1] at this
  exact this
def gM : List (List Int) := [[1], []]
theorem edge_gM {i k : Nat} : Edge gM i k ↔ (i = 0 ∧ k = 1) := by
  constructor
  · rintro ⟨l, h1, h2, _⟩
    unfold gM at h1
    match i, h1 with
    | 0, h1 => simp at h1; subst h1; simp at h2; omega
    | 1, h1 => simp at h1; subst h1; cases h2
    | i + 2, h1 => simp at h1
  · rintro ⟨rfl, rfl⟩
    exact ⟨[1], rfl, by simp, by decide⟩
theorem tc_gM {k : Nat} : TC gM 0 k ↔ k = 1 := by
  constructor
  · rintro ⟨c, h1, h2⟩
    obtain ⟨_, rfl⟩ := edge_gM.1 h1
    rcases h2.cases_tc with rfl | ⟨d, h3, _⟩
    · rfl
    · have := (edge_gM.1 h3).1; omega
  · rintro rfl
    exact .one (edge_gM.2 ⟨rfl, rfl⟩)
theorem reach_gM : (reachL gM 0).length = 1 := by
  have : reachL gM 0 = [1] := by
    classical
    unfold reachL
    show (List.range 2).filter _ = _
    rw [List.filter_congr (q := fun k => decide (k = 1)) (fun k _ => by rw [decide_eq_decide]; exact tc_gM)]
    decide
  rw [this]; rfl
def gN : List (List Int) := [[]]
theorem open_gN : (openL gN [true]).length = 1 := by
  have hno : ∀ i k, ¬ Edge gN i k := by
    rintro i k ⟨l, h1, h2, _⟩
    unfold gN at h1
    match i, h1 with
    | 0, h1 => simp at h1; subst h1; cases h2
    | i + 1, h1 => simp at h1
  have : openL gN [true] = [0] := by
    classical
    have hb : openB gN [true] 0 = true := by
      unfold openB
      rw [decide_eq_true (fun k ⟨c, h, _⟩ => absurd h (hno _ _))]
      rfl
    unfold openL pickI
    show (List.range 1).filter _ = _
    simp [List.range_succ, hb]
  rw [this]; rfl
end Go.Proofs.Ytenlpklgpcnfiaa
