/-
  Knots, plain: who reaches whom (the search by depth; by all ways), labels of knots.
-/
import Derived.Test.YtenlpklgpcnfiaaKnP
namespace Go.Proofs.Ytenlpklgpcnfiaa
set_option linter.unusedVariables false
/-- k is reached from i by one way or more -/
def TC (g : List (List Int)) (i k : Nat) : Prop := ∃ c, Edge g i c ∧ RT g c k
theorem TC.one {g : List (List Int)} {i k : Nat} (h : Edge g i k) : TC g i k := ⟨k, h, .refl k⟩
theorem TC.rt {g : List (List Int)} {i k : Nat} (h : TC g i k) : RT g i k := by
  obtain ⟨c, h1, h2⟩ := h
  exact (RT.one h1).trans h2
theorem rt_tc {g : List (List Int)} {a b c : Nat} (h : RT g a b) (e : Edge g b c) : TC g a c := by
  induction h generalizing c with
  | refl => exact .one e
  | step h1 e1 ih =>
    obtain ⟨d, h2, h3⟩ := ih e1
    exact ⟨d, h2, .step h3 e⟩
theorem TC.trans {g : List (List Int)} {a b c : Nat} (h : TC g a b) (k : TC g b c) : TC g a c := by
  obtain ⟨x, h1, h2⟩ := h
  obtain ⟨y, k1, k2⟩ := k
  exact ⟨x, h1, (RT.step h2 k1).trans k2⟩
theorem Edge.lt {g : List (List Int)} {i k : Nat} (h : Edge g i k) : i < g.length ∧ k < g.length := by
  obtain ⟨l, h1, _, h3⟩ := h
  refine ⟨?_, h3⟩
  rcases Nat.lt_or_ge i g.length with h | h
  · exact h
  · rw [List.getElem?_eq_none h] at h1; cases h1
theorem RT.cases_tc {g : List (List Int)} {a b : Nat} (h : RT g a b) : a = b ∨ TC g a b := by
  cases h with
  | refl => exact .inl rfl
  | step h e => exact .inr (rt_tc h e)
theorem TC.lt {g : List (List Int)} {a b : Nat} (h : TC g a b) : b < g.length := by
  obtain ⟨c, h1, h2⟩ := h
  rcases h2.cases_tc with rfl | ⟨d, h3, h4⟩
  · exact h1.lt.2
  · cases h2 with
    | refl => exact h1.lt.2
    | step _ e => exact e.lt.2
/-- the search by depth: s: what is seen; T: what is still to be done -/
structure Dfs (g : List (List Int)) (f : Nat) (s : Nat → Bool) (T : List Nat) (i : Option Nat) : Prop where
  sn : ∀ k, s k = true → k < g.length ∧ TC g f k
  td : ∀ v ∈ T, v < g.length ∧ RT g f v
  cl : ∀ v, (v = f ∨ s v = true) → v ∉ T → i = some v ∨ ∀ k, Edge g v k → s k = true
theorem dfs_start {g : List (List Int)} {f : Nat} (hf : f < g.length) : Dfs g f (fun _ => false) [f] none := by
  refine ⟨fun k h => (by cases h), fun v hv => ?_, fun v hv hT => ?_⟩
  · simp at hv; subst hv; exact ⟨hf, .refl _⟩
  · rcases hv with rfl | h
    · exact absurd (by simp) hT
    · cases h
theorem dfs_pop {g : List (List Int)} {f i : Nat} {s : Nat → Bool} {T : List Nat} (h : Dfs g f s (T ++ [i]) none) : Dfs g f s T (some i) ∧ i < g.length ∧ RT g f i := by
  refine ⟨⟨h.sn, fun v hv => h.td v (List.mem_append_left _ hv), fun v hv hT => ?_⟩, h.td i (by simp)⟩
  by_cases e : v = i
  · exact .inl (by rw [e])
  · rcases h.cl v hv (fun hh => by
      rcases List.mem_append.1 hh with hh | hh
      · exact hT hh
      · simp at hh; exact e hh) with h1 | h1
    · cases h1
    · exact .inr h1
theorem dfs_push {g : List (List Int)} {f i k : Nat} {s : Nat → Bool} {T : List Nat} (h : Dfs g f s T (some i)) (hi : RT g f i) (he : Edge g i k) : Dfs g f (upd s k true) (T ++ [k]) (some i) := by
  have hk := he.lt.2
  refine ⟨fun x hx => ?_, fun v hv => ?_, fun v hv hT => ?_⟩
  · by_cases e : x = k
    · subst e; exact ⟨hk, rt_tc hi he⟩
    · rw [upd_ne _ _ e] at hx; exact h.sn x hx
  · rcases List.mem_append.1 hv with hv | hv
    · exact h.td v hv
    · simp at hv; subst hv; exact ⟨hk, (rt_tc hi he).rt⟩
  · have e : v ≠ k := fun e => hT (by rw [e]; simp)
    rw [upd_ne _ _ e] at hv
    rcases h.cl v hv (fun hh => hT (List.mem_append_left _ hh)) with h1 | h1
    · exact .inl h1
    · exact .inr fun x hx => by
        by_cases e2 : x = k
        · subst e2; exact upd_self _ _ _
        · rw [upd_ne _ _ e2]; exact h1 x hx
theorem dfs_done {g : List (List Int)} {f i : Nat} {s : Nat → Bool} {T : List Nat} (h : Dfs g f s T (some i)) (hall : ∀ k, Edge g i k → s k = true) : Dfs g f s T none := by
  refine ⟨h.sn, h.td, fun v hv hT => ?_⟩
  rcases h.cl v hv hT with h1 | h1
  · injection h1 with h1; subst h1; exact .inr hall
  · exact .inr h1
theorem dfs_end {g : List (List Int)} {f : Nat} {s : Nat → Bool} (h : Dfs g f s [] none) : ∀ k, s k = true ↔ TC g f k := by
  intro k
  refine ⟨fun hk => (h.sn k hk).2, fun hk => ?_⟩
  have hc : ∀ v, (v = f ∨ s v = true) → ∀ k, Edge g v k → s k = true := fun v hv => by
    rcases h.cl v hv (by simp) with h1 | h1
    · cases h1
    · exact h1
  obtain ⟨c, h1, h2⟩ := hk
  have := hc f (.inl rfl) c h1
  clear h1
  induction h2 with
  | refl => exact this
  | step _ e ih => exact hc _ (.inr ih) _ e
/-- by all ways through the first m places -/
inductive Via (g : List (List Int)) (m : Nat) : Nat → Nat → Prop
  | one {a b : Nat} : Edge g a b → Via g m a b
  | thr {a b c : Nat} : Via g m a b → b < m → Via g m b c → Via g m a c
theorem Via.tc {g : List (List Int)} {m a b : Nat} (h : Via g m a b) : TC g a b := by
  induction h with
  | one e => exact .one e
  | thr _ _ _ h1 h2 => exact h1.trans h2
theorem via_ext {g : List (List Int)} {a x b : Nat} (hr : RT g x b) : Via g g.length a x → Via g g.length a b := by
  induction hr with
  | refl => exact id
  | step _ e ih => exact fun hx => .thr (ih hx) e.lt.1 (.one e)
theorem via_all {g : List (List Int)} {a b : Nat} (h : TC g a b) : Via g g.length a b := by
  obtain ⟨c, h1, h2⟩ := h
  exact via_ext h2 (.one h1)
theorem Via.up {g : List (List Int)} {m a b : Nat} (h : Via g m a b) : Via g (m + 1) a b := by
  induction h with
  | one e => exact .one e
  | thr _ hb _ h1 h2 => exact .thr h1 (by omega) h2
theorem via_step {g : List (List Int)} {m a b : Nat} (h : Via g (m + 1) a b) : Via g m a b ∨ (Via g m a m ∧ Via g m m b) := by
  induction h with
  | one e => exact .inl (.one e)
  | thr _ hb _ h1 h2 =>
    rename_i a b c _ _
    by_cases e : b = m
    · subst e
      rcases h1 with h1 | ⟨h1, _⟩ <;> rcases h2 with h2 | ⟨_, h2⟩
      · exact .inr ⟨h1, h2⟩
      · exact .inr ⟨h1, h2⟩
      · exact .inr ⟨h1, h2⟩
      · exact .inr ⟨h1, h2⟩
    · have hb' : b < m := by omega
      rcases h1 with h1 | ⟨h1, h3⟩ <;> rcases h2 with h2 | ⟨h2, h4⟩
      · exact .inl (.thr h1 hb' h2)
      · exact .inr ⟨.thr h1 hb' h2, h4⟩
      · exact .inr ⟨h1, .thr h3 hb' h2⟩
      · exact .inr ⟨h1, h4⟩
theorem via_iff {g : List (List Int)} {m a b : Nat} : Via g (m + 1) a b ↔ Via g m a b ∨ (Via g m a m ∧ Via g m m b) := by
  refine ⟨via_step, ?_⟩
  rintro (h | ⟨h1, h2⟩)
  · exact h.up
  · exact .thr h1.up (by omega) h2.up
theorem via_zero {g : List (List Int)} {a b : Nat} : Via g 0 a b ↔ Edge g a b := by
  refine ⟨fun h => ?_, .one⟩
  cases h with
  | one e => exact e
  | thr _ h _ => omega
theorem via_end {g : List (List Int)} {a b : Nat} : Via g g.length a b ↔ TC g a b := ⟨Via.tc, via_all⟩
/-- labels of knots -/
structure Lab (g : List (List Int)) (lab : Nat → Int) (m : Nat) : Prop where
  lt : ∀ v, v < g.length → 0 ≤ lab v ∧ lab v < (m : Int)
  dn : ∀ v k, Edge g v k → lab k ≤ lab v
  eq : ∀ u v, u < g.length → v < g.length → lab u = lab v → RT g u v
  all : ∀ a : Nat, a < m → ∃ v, v < g.length ∧ lab v = (a : Int)
theorem Lab.rt {g : List (List Int)} {lab : Nat → Int} {m : Nat} (h : Lab g lab m) {u v : Nat} (hr : RT g u v) : lab v ≤ lab u := by
  induction hr with
  | refl => exact Int.le_refl _
  | step _ e ih => have := h.dn _ _ e; omega
theorem Lab.iff {g : List (List Int)} {lab : Nat → Int} {m : Nat} (h : Lab g lab m) {u v : Nat} (hu : u < g.length) (hv : v < g.length) : lab u = lab v ↔ RT g u v ∧ RT g v u :=
  ⟨fun e => ⟨h.eq u v hu hv e, h.eq v u hv hu e.symm⟩, fun e => by have := h.rt e.1; have := h.rt e.2; omega⟩
/-- all entered, none on the stack: labels -/
theorem core_lab {g : List (List Int)} {S : KS} (h : Core g S []) (hall : ∀ v, v < g.length → S.num v ≠ -1) : Lab g S.knot S.id := by
  have hs : S.stk = [] := by
    cases hs : S.stk with
    | nil => rfl
    | cons a l =>
      obtain ⟨p, hp, _⟩ := h.bot a (by rw [hs]; simp)
      cases hp
  have hd : ∀ v, v < g.length → Done g S v := fun v hv => ⟨hv, hall v hv, by rw [hs]; simp⟩
  refine ⟨fun v hv => h.lab v (hd v hv), fun v k e => (h.dcl v k (hd v e.lt.1) e).2, fun u v hu hv e => h.snd u v (hd u hu) (hd v hv) e, fun a ha => ?_⟩
  obtain ⟨v, hv, e⟩ := h.srj a ha
  exact ⟨v, hv.1, e⟩
end Go.Proofs.Ytenlpklgpcnfiaa
