/-
  What posting weighs: sums before and behind. Plain.
-/
import Derived.Test.YtaohgefpnndjcaaVoP2
namespace Go.Proofs.Ytaohgefpnndjcaa
set_option linter.unusedVariables false
open Go.RowKit
def hsum (C : List Ac) : Int := isum (C.map fun a => a.h)
theorem upd_none {C : List Ac} {l : Lg} (h : ∀ a ∈ C, a.n ≠ l.n) : updL C l = C := by
  unfold updL
  conv => rhs; rw [← List.map_id C]
  exact List.map_congr_left fun a ha => by rw [if_neg (h a ha)]; rfl
theorem upd_sum {l : Lg} : ∀ {C : List Ac} {a : Ac}, SortedC C → getC C l.n = some a → hsum (updL C l) = hsum C + l.x
  | [], a, _, h => by simp [getC] at h
  | y :: t, a, hs, h => by
    obtain ⟨h1, h2⟩ := List.pairwise_cons.1 hs
    by_cases e : y.n = l.n
    · have ht : updL t l = t := upd_none fun x hx hn => bb_ne (h1 x hx) (by rw [e, hn])
      have hu : updL (y :: t) l = { y with h := y.h + l.x } :: updL t l := by
        unfold updL
        rw [List.map_cons, if_pos e]
      rw [hu, ht]
      unfold hsum
      rw [List.map_cons, List.map_cons, isum_cons, isum_cons]
      dsimp only
      omega
    · have hg : getC t l.n = some a := by
        unfold getC at h ⊢
        rwa [List.find?_cons_of_neg (by simpa using e)] at h
      have ih := upd_sum h2 hg
      have hu : updL (y :: t) l = y :: updL t l := by
        unfold updL
        rw [List.map_cons, if_neg e]
      rw [hu]
      unfold hsum at ih ⊢
      rw [List.map_cons, List.map_cons, isum_cons, isum_cons, ih]
      omega
theorem apply_nil (C : List Ac) : applyL C [] = C := by
  show C.map (addL []) = C
  conv => rhs; rw [← List.map_id C]
  exact List.map_congr_left fun a _ => rfl
theorem apply_sum : ∀ (ls : List Lg) {C : List Ac}, SortedC C → (ls.map fun l => l.n).Nodup → (∀ l ∈ ls, ∃ a, getC C l.n = some a) → hsum (applyL C ls) = hsum C + isum (ls.map fun l => l.x)
  | [], C, _, _, _ => by
    rw [apply_nil, List.map_nil, isum_nil]; omega
  | l :: ls, C, hs, hn, hg => by
    rw [List.map_cons, List.nodup_cons] at hn
    have hne : ∀ m ∈ ls, m.n ≠ l.n := fun m hm e => hn.1 (List.mem_map.2 ⟨m, hm, e⟩)
    obtain ⟨a, ha⟩ := hg l (by simp)
    have ih := apply_sum ls (C := updL C l) (upd_sorted hs l) hn.2 (fun m hm => by
      rw [get_upd_other (fun e => hne m hm e.symm)]
      exact hg m (List.mem_cons_of_mem _ hm))
    rw [← add_upd C l ls hne, ih, upd_sum hs ha, List.map_cons, isum_cons]
    omega
def byF (ls : List Lg) (s : List UInt8) : Int := match ls.find? (fun l => l.n == s) with | some l => l.x | none => 0
theorem by_snoc {ls : List Lg} {l : Lg} {s : List UInt8} (h : ((ls ++ [l]).map fun l => l.n).Nodup) : byF (ls ++ [l]) s = (if l.n = s then l.x else byF ls s) ∧ (l.n = s → byF ls s = 0) := by
  have hz : l.n = s → ls.find? (fun l => l.n == s) = none := fun e => by
    rw [List.find?_eq_none]
    intro m hm
    simp only [beq_iff_eq]
    intro hms
    rw [List.map_append, List.nodup_append] at h
    exact h.2.2 m.n (List.mem_map.2 ⟨m, hm, rfl⟩) l.n (by simp) (by rw [hms, e])
  unfold byF
  rw [List.find?_append]
  by_cases e : l.n = s
  · rw [hz e, if_pos e]
    refine ⟨?_, fun _ => rfl⟩
    rw [List.find?_cons_of_pos (by simpa using e)]; rfl
  · rw [if_neg e]
    refine ⟨?_, fun h => absurd h e⟩
    rw [List.find?_cons_of_neg (by simpa using e)]
    cases ls.find? (fun l => l.n == s) <;> rfl
theorem by_i64 {ls : List Lg} (h : ∀ l ∈ ls, LgOk l) (s : List UInt8) : I64 (byF ls s) := by
  unfold byF
  cases hf : ls.find? (fun l => l.n == s) with
  | none => unfold I64; dsimp only; omega
  | some l => exact (h l (List.mem_of_find?_eq_some hf)).2
theorem add_is (ls : List Lg) (a : Ac) : addL ls a = { a with h := a.h + byF ls a.n } := by
  unfold addL byF
  cases ls.find? (fun l => l.n == a.n) with
  | none =>
    dsimp only
    rw [Int.add_zero]
  | some l => rfl
/-- what was made, and what was not -/
theorem make_law {C : List Ac} {ls : List Lg} (hs : SortedC C) : ((makeR C ls).2 = 0 ∧ sumR (hsum (makeR C ls).1) = sumR (hsum C) ∧ (makeR C ls).1 = applyL C ls ∧ (ls.map fun l => l.n).Nodup) ∨ (((makeR C ls).2 == 0) = false ∧ (makeR C ls).1 = C) := by
  cases hr : rightB ls with
  | false => rw [make_no1 hr]; exact .inr ⟨rfl, rfl⟩
  | true =>
    cases hw : weighB ls with
    | false => rw [make_no2 hr hw]; exact .inr ⟨rfl, rfl⟩
    | true =>
      rw [make_yes hr hw]
      obtain ⟨_, hn, _⟩ := (right_iff ls).1 hr
      obtain ⟨a1, a2⟩ := all_eff ls hs hn
      by_cases h0 : (allR C ls).2 = 0
      · rw [if_neg (by omega)]
        refine .inl ⟨h0, ?_, a2 h0, hn⟩
        have hz : isum (ls.map fun l => l.x) = 0 := by unfold weighB at hw; simpa using hw
        rw [a2 h0, apply_sum ls hs hn (fun l hl => by
          obtain ⟨⟨a, ha, _⟩, _⟩ := post_eff hs (a1.1 h0 l hl)
          exact ⟨a, ha⟩), hz, Int.add_zero]
      · rw [if_pos h0]
        exact .inr ⟨by simpa using h0, rfl⟩
end Go.Proofs.Ytaohgefpnndjcaa
