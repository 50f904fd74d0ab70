/-
  Knots, plain: the search's steps on a path of places and ways.
-/
import Derived.Test.YtenlpklgpcnfiaaKnS
namespace Go.Proofs.Ytenlpklgpcnfiaa
set_option linter.unusedVariables false
abbrev Path := List (Nat × Nat)
structure SP (g : List (List Int)) (S : KS) (P : Path) : Prop where
  core : Core g S (P.map (·.1))
  pro : Pro g S P
  way : ∀ p ∈ P, ∀ l, g[p.1]? = some l → p.2 ≤ l.length
  idc : S.id ≤ S.cnt
def un (g : List (List Int)) (S : KS) : Nat := (List.range g.length).countP fun v => S.num v == -1
theorem SP.few {g : List (List Int)} {S : KS} {P : Path} (h : SP g S P) : S.stk.length + S.cnt + un g S = g.length := h.core.few
theorem SP.top {g : List (List Int)} {S : KS} {P0 : Path} {i e : Nat} (h : SP g S (P0 ++ [(i, e)])) : i ∈ S.stk ∧ i < g.length ∧ S.num i ≠ -1 := by
  have h1 : i ∈ S.stk := h.core.pst i (by simp)
  exact ⟨h1, h.core.lt i h1, by have := h.core.ent i h1; omega⟩
section
variable {g : List (List Int)} {S : KS} {P0 : Path} {i e : Nat} {l : List Int} {x : Int}
theorem way_next (h : ∀ p ∈ P0 ++ [(i, e)], ∀ l, g[p.1]? = some l → p.2 ≤ l.length) (hl : g[i]? = some l) (hx : l[e]? = some x) : ∀ p ∈ P0 ++ [(i, e + 1)], ∀ l, g[p.1]? = some l → p.2 ≤ l.length := by
  intro p hp l' hl'
  rcases List.mem_append.1 hp with hp | hp
  · exact h p (List.mem_append_left _ hp) l' hl'
  · simp at hp
    subst hp
    rw [hl] at hl'
    injection hl' with hl'
    subst hl'
    rcases Nat.lt_or_ge e l.length with h1 | h1
    · exact h1
    · rw [List.getElem?_eq_none h1] at hx; cases hx
theorem pro_next {T : KS} (h : Pro g T (P0 ++ [(i, e)])) (hl : g[i]? = some l) (hx : l[e]? = some x) (hd : ∀ k : Nat, x = (k : Int) → k < g.length → Done g T k ∨ (k ∈ T.stk ∧ T.low i ≤ T.num k)) : Pro g T (P0 ++ [(i, e + 1)]) := by
  intro p hp e' k l' he h1 h2 h3
  rcases List.mem_append.1 hp with hp | hp
  · exact h p (List.mem_append_left _ hp) e' k l' he h1 h2 h3
  · simp at hp
    subst hp
    by_cases e1 : e' = e
    · subst e1
      rw [hl] at h1
      injection h1 with h1
      subst h1
      rw [hx] at h2
      injection h2 with h2
      exact hd k h2 h3
    · exact h (i, e) (by simp) e' k l' (by simp at he ⊢; omega) h1 h2 h3
theorem SP.skip (h : SP g S (P0 ++ [(i, e)])) (hl : g[i]? = some l) (hx : l[e]? = some x) (hd : ∀ k : Nat, x = (k : Int) → k < g.length → Done g S k) : SP g S (P0 ++ [(i, e + 1)]) :=
  ⟨by have := h.core; simpa using this, pro_next h.pro hl hx fun k h1 h2 => .inl (hd k h1 h2), way_next h.way hl hx, h.idc⟩
theorem edge_of {k : Nat} (hl : g[i]? = some l) (hx : l[e]? = some (k : Int)) (hk : k < g.length) : Edge g i k := ⟨l, hl, List.mem_of_getElem? hx, hk⟩
theorem SP.low {k : Nat} (h : SP g S (P0 ++ [(i, e)])) (hl : g[i]? = some l) (hx : l[e]? = some (k : Int)) (hk : k < g.length) (ho : S.on k = true) : SP g (lowK S i (S.num k)) (P0 ++ [(i, e + 1)]) := by
  have hks : k ∈ S.stk := (h.core.on k hk).1 ho
  have hc : Core g S (P0.map (·.1) ++ [i]) := by have := h.core; simpa using this
  refine ⟨by have := low_core hc hks (edge_of hl hx hk); simpa using this, pro_next (low_pro h.pro i (S.num k)) hl hx ?_, way_next h.way hl hx, h.idc⟩
  intro k' h1 _
  have : k' = k := by omega
  subst this
  refine .inr ⟨hks, ?_⟩
  show upd S.low i (min (S.low i) (S.num k')) i ≤ S.num k'
  rw [upd_self]; omega
theorem SP.reach {k : Nat} (h : SP g S (P0 ++ [(i, e)])) (hed : Edge g i k) : ∀ p ∈ (P0 ++ [(i, e)]).map (·.1), RT g p k := by
  intro p hp
  have hc : Core g S (P0.map (·.1) ++ [i]) := by have := h.core; simpa using this
  have hp' : p ∈ P0.map (·.1) ++ [i] := by simpa using hp
  have hi : i ∈ S.stk := hc.pst i (by simp)
  have hle : S.num p ≤ S.num i := by
    rcases List.mem_append.1 hp' with h1 | h1
    · have := top_max hc.psr p h1; omega
    · simp at h1; subst h1; exact Int.le_refl _
  exact .step (hc.rch i hi p hp' hle) hed
theorem SP.enter {k : Nat} (h : SP g S (P0 ++ [(i, e)])) (hl : g[i]? = some l) (hx : l[e]? = some (k : Int)) (hk : k < g.length) (hn : S.num k = -1) : SP g (enterK S k) (P0 ++ [(i, e + 1)] ++ [(k, 0)]) := by
  have hc := enter_core h.core hk hn (h.reach (edge_of hl hx hk))
  refine ⟨by simpa using hc, enter_pro (P := P0 ++ [(i, e + 1)]) h.core (fun p hp => ?_) hn ?_, ?_, h.idc⟩
  · rcases List.mem_append.1 hp with hp | hp
    · simp; exact .inl ⟨p.2, hp⟩
    · simp at hp; subst hp; simp
  · intro p hp e' x' l' he h1 h2 h3
    rcases List.mem_append.1 hp with hp | hp
    · exact .inr (h.pro p (List.mem_append_left _ hp) e' x' l' he h1 h2 h3)
    · simp at hp
      subst hp
      by_cases e1 : e' = e
      · subst e1
        rw [hl] at h1
        injection h1 with h1
        subst h1
        rw [hx] at h2
        injection h2 with h2
        exact .inl (by omega)
      · exact .inr (h.pro (i, e) (by simp) e' x' l' (by simp at he ⊢; omega) h1 h2 h3)
  · intro p hp l' hl'
    rcases List.mem_append.1 hp with hp | hp
    · exact way_next h.way hl hx p hp l' hl'
    · simp at hp; subst hp; exact Nat.zero_le _
theorem un_enter {k : Nat} (hk : k < g.length) (hn : S.num k = -1) : un g (enterK S k) + 1 = un g S :=
  countP_upd (f := S.num) (x := ((S.stk.length + S.cnt : Nat) : Int)) (by omega) hn g.length hk
/-- the ways of the last place of the path, all gone -/
theorem SP.all (h : SP g S (P0 ++ [(i, e)])) (hl : g[i]? = some l) (he : l.length ≤ e) : ∀ k, Edge g i k → Done g S k ∨ (k ∈ S.stk ∧ S.low i ≤ S.num k) := by
  rintro k ⟨l', h1, h2, h3⟩
  rw [hl] at h1
  injection h1 with h1
  subst h1
  obtain ⟨j, hj, hjk⟩ := List.getElem_of_mem h2
  exact h.pro (i, e) (by simp) j k l (by simp; omega) hl (by rw [List.getElem?_eq_getElem hj, hjk]) h3
theorem SP.up {u f : Nat} {P1 : Path} (h : SP g S (P1 ++ [(u, f)] ++ [(i, e)])) (hl : g[i]? = some l) (he : l.length ≤ e) (hlow : S.low i ≠ S.num i) : SP g (lowK S u (S.low i)) (P1 ++ [(u, f)]) := by
  have hc : Core g S (P1.map (·.1) ++ [u] ++ [i]) := by have := h.core; simpa using this
  have hlt : S.low i < S.num i := by have := (hc.lowr i (hc.pst i (by simp))).1; omega
  exact ⟨by have := up_core hc hlt (h.all hl he); simpa using this, low_pro (fun p hp => h.pro p (List.mem_append_left _ hp)) u (S.low i), fun p hp => h.way p (List.mem_append_left _ hp), h.idc⟩
theorem SP.up_ne (h : SP g S (P0 ++ [(i, e)])) (hlow : S.low i ≠ S.num i) : ∃ P1 u f, P0 = P1 ++ [(u, f)] := by
  have hc : Core g S (P0.map (·.1) ++ [i]) := by have := h.core; simpa using this
  have hlt : S.low i < S.num i := by have := (hc.lowr i (hc.pst i (by simp))).1; omega
  have hne : P0 ≠ [] := fun e => up_has hc hlt (by rw [e]; rfl)
  refine ⟨P0.dropLast, (P0.getLast hne).1, (P0.getLast hne).2, ?_⟩
  exact (List.dropLast_concat_getLast hne).symm
theorem SP.parts (h : SP g S (P0 ++ [(i, e)])) : ∃ A0 B0, S.stk = A0 ++ i :: B0 ∧ i ∉ B0 := by
  obtain ⟨A0, B0, hs⟩ := List.append_of_mem h.top.1
  refine ⟨A0, B0, hs, fun hm => ?_⟩
  have := (pop_parts h.core hs).2.1 i hm
  omega
theorem SP.pop {A0 B0 : List Nat} (h : SP g S (P0 ++ [(i, e)])) (hl : g[i]? = some l) (he : l.length ≤ e) (hlow : S.low i = S.num i) (hs : S.stk = A0 ++ i :: B0) : SP g (popK S A0 (i :: B0)) P0 := by
  have hc : Core g S (P0.map (·.1) ++ [i]) := by have := h.core; simpa using this
  refine ⟨pop_core hc hs hlow (h.all hl he), pop_pro hc hs (fun p hp => h.pro p (List.mem_append_left _ hp)), fun p hp => h.way p (List.mem_append_left _ hp), ?_⟩
  have := h.idc
  show S.id + 1 ≤ S.cnt + (i :: B0).length
  simp; omega
theorem SP.pop_low {u f : Nat} {P1 : Path} (h : SP g S (P1 ++ [(u, f)] ++ [(i, e)])) (hlow : S.low i = S.num i) : min (S.low u) (S.low i) = S.low u := by
  have hc : Core g S (P1.map (·.1) ++ [u] ++ [i]) := by have := h.core; simpa using this
  have h1 := (hc.lowr u (hc.pst u (by simp))).1
  have h2 := top_max hc.psr u (by simp)
  omega
theorem lowK_same {u : Nat} {x : Int} (h : min (S.low u) x = S.low u) : lowK S u x = S := by
  unfold lowK
  rw [h]
  have : upd S.low u (S.low u) = S.low := by
    funext v
    by_cases e : v = u
    · subst e; exact upd_self _ _ _
    · exact upd_ne _ _ e
  rw [this]
theorem un_num {T : KS} (h : T.num = S.num) : un g T = un g S := by unfold un; rw [h]
end
/-- a search begins -/
theorem SP.first {g : List (List Int)} {S : KS} {k : Nat} (h : SP g S []) (hk : k < g.length) (hn : S.num k = -1) : SP g (enterK S k) [(k, 0)] := by
  have hc := enter_core h.core hk hn (fun p hp => by cases hp)
  refine ⟨by simpa using hc, enter_pro (P := []) h.core (fun p hp => by cases hp) hn (fun p hp => by cases hp), fun p hp l hl => ?_, h.idc⟩
  simp at hp
  subst hp
  exact Nat.zero_le _
def S0 : KS := ⟨fun _ => -1, fun _ => 0, fun _ => false, fun _ => 0, [], 0, 0⟩
theorem countP_true {n : Nat} {p : Nat → Bool} (h : ∀ v, p v = true) : (List.range n).countP p = n := by
  have : ∀ l : List Nat, l.countP p = l.length := fun l => by
    rw [List.countP_eq_length]; exact fun v _ => h v
  rw [this]; simp
theorem SP.zero (g : List (List Int)) : SP g S0 [] := by
  have hD : ∀ v, ¬ Done g S0 v := fun v hv => hv.2.1 rfl
  have hS : ∀ v, v ∉ S0.stk := fun v hv => by cases hv
  refine ⟨⟨?_, ?_, ?_, ?_, ?_, ?_, ?_, ?_, ?_, ?_, ?_, ?_, ?_, ?_, ?_, ?_, ?_, ?_⟩, ?_, ?_, Nat.le_refl _⟩
  · exact fun v hv => absurd hv (hS v)
  · exact List.Pairwise.nil
  · exact fun v _ => ⟨fun h => (by cases h), fun h => absurd h (hS v)⟩
  · exact fun v _ => .inl rfl
  · exact fun v hv => absurd hv (hS v)
  · exact fun v hv => (by cases hv)
  · exact List.Pairwise.nil
  · exact fun v hv => absurd hv (hS v)
  · exact fun v hv => absurd hv (hS v)
  · exact fun v hv => absurd hv (hS v)
  · exact fun v hv => absurd hv (hS v)
  · exact fun v hv => absurd hv (hS v)
  · exact fun v hv => absurd hv (hS v)
  · exact fun v k hv => absurd hv (hD v)
  · exact fun v hv => absurd hv (hD v)
  · exact fun u v hu => absurd hu (hD u)
  · exact fun a ha => absurd ha (Nat.not_lt_zero a)
  · show 0 + 0 + (List.range g.length).countP (fun v => (-1 : Int) == -1) = g.length
    have := countP_true (n := g.length) (p := fun _ => (-1 : Int) == -1) (fun _ => rfl)
    omega
  · exact fun p hp => (by cases hp)
  · exact fun p hp => (by cases hp)
end Go.Proofs.Ytenlpklgpcnfiaa
