/-
  Accounts in the order of their names: what a look-up and a store are on such a list. Plain.
-/
import Derived.Test.YtaohgefpnndjcaaOrdP
namespace Go.Proofs.Ytaohgefpnndjcaa
set_option linter.unusedVariables false
open Go.RowKit
theorem txt_list (s : ByteArray) : txt s.data.toList = s := rfl
structure Ac where
  n : List UInt8
  h : Int
  s : Int
  l : Int
deriving DecidableEq
def acV (a : Ac) : Value := .agg #[.string (txt a.n), .int .i64 a.h, .int .i64 a.s, .int .i64 a.l]
def entA (a : Ac) : NameV := (a.n, acV a)
def ents (C : List Ac) : List NameV := C.map entA
def SortedC (C : List Ac) : Prop := C.Pairwise fun a b => bytesBefore a.n b.n = true
def getC (C : List Ac) (s : List UInt8) : Option Ac := C.find? fun a => a.n == s
def setC (C : List Ac) (a : Ac) : List Ac := C.map fun x => if x.n == a.n then a else x
def insC (a : Ac) : List Ac → List Ac
  | [] => [a]
  | y :: l => if bytesBefore a.n y.n then a :: y :: l else y :: insC a l
theorem sortedC_iff (C : List Ac) : Sorted (ents C) ↔ SortedC C := by
  unfold Sorted ents SortedC
  rw [List.pairwise_map]; rfl
theorem find_ents (C : List Ac) (s : List UInt8) : findL (ents C) s = (getC C s).map acV := by
  unfold findL ents getC
  induction C with
  | nil => rfl
  | cons y l ih =>
    simp only [List.map_cons, List.find?_cons]
    have : ((entA y).1 == s) = (y.n == s) := rfl
    rw [this]
    cases h : (y.n == s) with
    | true => rfl
    | false => simpa using ih
theorem getC_name {C : List Ac} {s : List UInt8} {a : Ac} (h : getC C s = some a) : a.n = s := by
  have := List.find?_some h
  simpa using this
theorem getC_mem {C : List Ac} {s : List UInt8} {a : Ac} (h : getC C s = some a) : a ∈ C := List.mem_of_find?_eq_some h
theorem filter_none {C : List Ac} {s : List UInt8} (h : ∀ a ∈ C, a.n ≠ s) : (ents C).filter (fun p => !(p.1 == s)) = ents C := by
  rw [List.filter_eq_self]
  intro p hp
  obtain ⟨a, ha, rfl⟩ := List.mem_map.1 hp
  have := h a ha
  simp [entA, this]
theorem setC_none {C : List Ac} {a : Ac} (h : ∀ x ∈ C, x.n ≠ a.n) : setC C a = C := by
  unfold setC
  conv => rhs; rw [← List.map_id C]
  refine List.map_congr_left fun x hx => ?_
  have := h x hx
  simp [this]
theorem put_ins (a : Ac) : ∀ C : List Ac, insL (entA a) (ents C) = ents (insC a C)
  | [] => rfl
  | y :: l => by
    simp only [ents, List.map_cons, insL, insC]
    have ih := put_ins a l
    unfold ents at ih
    have : bytesBefore (entA a).1 (entA y).1 = bytesBefore a.n y.n := rfl
    rw [this]
    split
    · rfl
    · rw [ih]; rfl
theorem put_new {C : List Ac} {a : Ac} (h : getC C a.n = none) : putL a.n (acV a) (ents C) = ents (insC a C) := by
  have hne : ∀ x ∈ C, x.n ≠ a.n := by
    intro x hx he
    have := List.find?_eq_none.1 h x hx
    simp [he] at this
  unfold putL
  rw [filter_none hne]
  exact put_ins a C
theorem put_old {a : Ac} : ∀ {C : List Ac}, SortedC C → (∃ x ∈ C, x.n = a.n) → putL a.n (acV a) (ents C) = ents (setC C a)
  | [], _, h => by obtain ⟨x, hx, _⟩ := h; cases hx
  | y :: l, hs, h => by
    obtain ⟨h1, h2⟩ := List.pairwise_cons.1 hs
    by_cases he : y.n = a.n
    · have hl : ∀ x ∈ l, x.n ≠ a.n := fun x hx => by rw [← he]; exact (bb_ne (h1 x hx)).symm
      have e1 : (ents (y :: l)).filter (fun p => !(p.1 == a.n)) = ents l := by
        have : ents (y :: l) = entA y :: ents l := rfl
        rw [this, List.filter_cons_of_neg (by simp [entA, he]), filter_none hl]
      have e2 : setC (y :: l) a = a :: l := by
        have : setC (y :: l) a = (if y.n == a.n then a else y) :: setC l a := rfl
        rw [this, setC_none hl, if_pos (by simp [he])]
      unfold putL
      rw [e1, e2]
      cases l with
      | nil => rfl
      | cons z l =>
        have hz := h1 z (by simp)
        rw [he] at hz
        show (if bytesBefore a.n z.n then _ else _) = _
        rw [if_pos hz]; rfl
    · have hx : ∃ x ∈ l, x.n = a.n := by
        obtain ⟨x, hx, hn⟩ := h
        rcases List.mem_cons.1 hx with rfl | hx
        · exact absurd hn he
        · exact ⟨x, hx, hn⟩
      have ih := put_old h2 hx
      have hya : bytesBefore a.n y.n = false := by
        obtain ⟨x, hx, hn⟩ := hx
        have := h1 x hx
        rw [hn] at this
        exact bb_asymm this
      have e1 : (ents (y :: l)).filter (fun p => !(p.1 == a.n)) = entA y :: (ents l).filter (fun p => !(p.1 == a.n)) := by
        have : ents (y :: l) = entA y :: ents l := rfl
        rw [this, List.filter_cons_of_pos (by simp [entA, he])]
      have e2 : setC (y :: l) a = y :: setC l a := by
        have : setC (y :: l) a = (if y.n == a.n then a else y) :: setC l a := rfl
        rw [this, if_neg (by simp [he])]
      unfold putL at ih ⊢
      rw [e1, e2]
      show (if bytesBefore a.n y.n then _ else _) = _
      rw [if_neg (by simp [hya]), ih]; rfl
end Go.Proofs.Ytaohgefpnndjcaa
