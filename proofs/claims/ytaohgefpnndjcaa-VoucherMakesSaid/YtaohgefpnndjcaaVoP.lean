/-
  Legs and what posting them is. Plain.
-/
import Derived.Test.YtaohgefpnndjcaaChApartP
namespace Go.Proofs.Ytaohgefpnndjcaa
set_option linter.unusedVariables false
open Go.RowKit
structure Lg where
  n : List UInt8
  x : Int
deriving DecidableEq
/-- what a leg of an argument is -/
def LgOk (l : Lg) : Prop := (txt l.n).size ≤ maxLen ∧ I64 l.x
def seenL (ls : List Lg) : List NameV := ls.foldl (fun L l => putL l.n (.bool true) L) []
def okLeg (l : Lg) : Bool := nameB l.n && !(l.x == 0)
def rightB (ls : List Lg) : Bool := ls.all okLeg && decide ((seenL ls).length = ls.length) && decide (2 ≤ ls.length) && decide (ls.length ≤ 6)
def weighB (ls : List Lg) : Bool := decide (isum (ls.map fun l => l.x) = 0)
def postR (C : List Ac) (l : Lg) : List Ac × Int :=
  match getC C l.n with
  | none => (C, 6)
  | some _ => if (actR (0 - l.x)).2 ≠ 0 then (C, (actR (0 - l.x)).2) else turnR C l.n (actR (0 - l.x)).1 (giveA (actR (0 - l.x)).1)
def allR (C : List Ac) : List Lg → List Ac × Int
  | [] => (C, 0)
  | l :: ls => if (postR C l).2 ≠ 0 then postR C l else allR (postR C l).1 ls
def checkR (C : List Ac) (ls : List Lg) : Int := if rightB ls = false then 1 else if weighB ls = false then 8 else (allR C ls).2
def makeR (C : List Ac) (ls : List Lg) : List Ac × Int := if checkR C ls ≠ 0 then (C, checkR C ls) else allR C ls
theorem post_okc {C : List Ac} (h : OkC C) (l : Lg) : OkC (postR C l).1 := by
  unfold postR
  split
  · exact h
  · split
    · exact h
    · exact give_okc h _ _
theorem all_okc : ∀ (ls : List Lg) {C : List Ac}, OkC C → OkC (allR C ls).1
  | [], _, h => h
  | l :: ls, C, h => by
    unfold allR
    split
    · exact post_okc h l
    · exact all_okc ls (post_okc h l)
theorem make_okc {C : List Ac} (h : OkC C) (ls : List Lg) : OkC (makeR C ls).1 := by
  unfold makeR
  split
  · exact h
  · exact all_okc ls h
theorem seenL_snoc (ls : List Lg) (l : Lg) : seenL (ls ++ [l]) = putL l.n (.bool true) (seenL ls) := by unfold seenL; rw [List.foldl_append]; rfl
theorem insL_len (x : NameV) : ∀ L : List NameV, (insL x L).length = L.length + 1
  | [] => rfl
  | y :: l => by
    unfold insL
    split
    · rfl
    · rw [List.length_cons, insL_len x l, List.length_cons]
theorem insL_mem {x y : NameV} : ∀ {L : List NameV}, y ∈ insL x L ↔ y = x ∨ y ∈ L
  | [] => by simp [insL]
  | z :: l => by
    unfold insL
    split
    · simp
    · simp only [List.mem_cons, insL_mem (L := l)]
      constructor
      · rintro (h | h | h)
        · exact .inr (.inl h)
        · exact .inl h
        · exact .inr (.inr h)
      · rintro (h | h | h)
        · exact .inr (.inl h)
        · exact .inl h
        · exact .inr (.inr h)
theorem snoc_ind {α : Type} {p : List α → Prop} (h0 : p []) (h1 : ∀ l a, p l → p (l ++ [a])) (l : List α) : p l := by
  have h : ∀ m : List α, p m.reverse := by
    intro m
    induction m with
    | nil => exact h0
    | cons a m ih => rw [List.reverse_cons]; exact h1 _ _ ih
  have := h l.reverse
  rwa [List.reverse_reverse] at this
theorem seenL_names (s : List UInt8) : ∀ ls : List Lg, (∃ v, (s, v) ∈ seenL ls) ↔ ∃ l ∈ ls, l.n = s := by
  refine snoc_ind ?_ (fun ls l ih => ?_)
  · simp [seenL]
  · rw [seenL_snoc]
    unfold putL
    constructor
    · rintro ⟨v, hv⟩
      rcases insL_mem.1 hv with h | h
      · injection h with h1 h2
        exact ⟨l, by simp, h1.symm⟩
      · obtain ⟨l', hl', hn⟩ := ih.1 ⟨v, (List.mem_filter.1 h).1⟩
        exact ⟨l', by simp [hl'], hn⟩
    · rintro ⟨l', hl', hn⟩
      by_cases e : l.n = s
      · exact ⟨.bool true, insL_mem.2 (.inl (by rw [e]))⟩
      · rw [List.mem_append] at hl'
        rcases hl' with hl' | hl'
        · obtain ⟨v, hv⟩ := ih.2 ⟨l', hl', hn⟩
          refine ⟨v, insL_mem.2 (.inr (List.mem_filter.2 ⟨hv, ?_⟩))⟩
          simp only [Bool.not_eq_true', beq_eq_false_iff_ne]
          exact fun h => e h.symm
        · simp at hl'; subst hl'; exact absurd hn e
theorem seenL_len : ∀ ls : List Lg, (seenL ls).length ≤ ls.length ∧ ((seenL ls).length = ls.length ↔ (ls.map fun l => l.n).Nodup) := by
  refine snoc_ind ?_ (fun ls l ih => ?_)
  · simp [seenL]
  · obtain ⟨h1, h2⟩ := ih
    rw [seenL_snoc]
    unfold putL
    rw [insL_len, List.length_append, List.length_singleton, List.map_append, List.nodup_append]
    have hf := List.length_filter_le (fun p : NameV => !(p.1 == l.n)) (seenL ls)
    refine ⟨by omega, ?_⟩
    have key : ((seenL ls).filter fun p => !(p.1 == l.n)).length = (seenL ls).length ↔ ¬ ∃ y ∈ ls, y.n = l.n := by
      rw [← seenL_names, List.length_filter_eq_length_iff]
      constructor
      · rintro h ⟨v, hv⟩
        have := h _ hv
        simp at this
      · intro h p hp
        simp only [Bool.not_eq_true', beq_eq_false_iff_ne]
        intro e
        exact h ⟨p.2, by rw [← e]; exact hp⟩
    constructor
    · intro h
      refine ⟨h2.1 (by omega), by simp, ?_⟩
      have := key.1 (by omega)
      intro a ha b hb hab
      obtain ⟨y, hy, rfl⟩ := List.mem_map.1 ha
      simp at hb
      exact this ⟨y, hy, by rw [hab, hb]⟩
    · rintro ⟨a, _, b⟩
      have e1 := h2.2 a
      have e2 := key.2 (by
        rintro ⟨y, hy, hn⟩
        exact b y.n (List.mem_map.2 ⟨y, hy, rfl⟩) l.n (by simp) hn)
      omega
end Go.Proofs.Ytaohgefpnndjcaa
