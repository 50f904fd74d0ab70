/-
  How a step, and a script of them, read as arguments.
-/
import Derived.Test.YtgljnlafjolfpaaChLives
import Derived.Test.YtgljnlafjolfpaaOpen
import Derived.Lib.SmallJoins
namespace Go.Proofs.Ytgljnlafjolfpaa
set_option linter.unusedVariables false
open Go.ChangeShapes Go.WideShapes Go.ChangeAt Go.RowKit Go.Deep
/-- a step -/
structure OpV where
  k : Int
  s : ByteArray
  x : Int
def OpV.v (o : OpV) : Value := .agg #[.int .i64 o.k, .string o.s, .int .i64 o.x]
def OpV.cells (o : OpV) : List Value := [.int .i64 o.k, .string o.s, .int .i64 o.x]
def OpV.ok (o : OpV) : Prop := o.s.size ≤ maxLen ∧ (Lit.int .i64 o.x).wf = true
set_option maxRecDepth 100000 in
theorem open_opv {H : Type} {enc : TypeId × Value → H} {w : World} {held : Bool} {base b0 : Nat} {r : Reach} {v : Value} {d : DataW H} {ps : List MemPlace} {spare : Nat → Bool}
    (hval : Value.okWide Try.prog w r b0 28 v) (hd : DataW.Trod enc Try.prog w base spare held 28 v d ps) : ∃ o : OpV, v = o.v ∧ o.ok := by
  obtain ⟨v0, v1, v2, y0, y1, y2, n, rfl, _, _, h0, h1, h2⟩ := Go.Joins.open_agg3 Try.underlying28 (by kernel_rfl) (by kernel_rfl) hval hd
  obtain ⟨k, e0, _, w0⟩ := DataW.trod_int Try.underlying3 h0
  obtain ⟨s, e1, _, w1⟩ := DataW.trod_string Try.underlying9 h1
  obtain ⟨x, e2, _, w2⟩ := DataW.trod_int Try.underlying2 h2
  simp only [List.cons.injEq, and_true] at e0 e1 e2
  subst e0 e1 e2
  exact ⟨⟨k, s, x⟩, rfl, w1, w2⟩
set_option maxRecDepth 100000 in
theorem open_ops {H : Type} {enc : TypeId × Value → H} {w : World} {held : Bool} {fuel : Nat} {cs : List Value} {x : DataW H × List MemPlace}
    (h : DataW.trod enc Try.prog w 0 (fun _ => true) held fuel 22 cs = some x) (hw : Wd Try.prog 22 x.1) :
    ∃ (A : Option Addr) (n c : Nat) (os : List OpV), cs = [.slice A n c] ∧ Rd w 3 A n (os.flatMap OpV.cells) ∧ n ≤ c ∧ (∀ o ∈ os, o.ok) := by
  obtain ⟨A, n, c, css, D, rfl, hc, hi⟩ := open_any Try.underlying22 (by kernel_rfl : Try.prog.cellsOf 28 = 3) (by omega) h hw
  have hch : ∀ i, i < n → ∃ o : OpV, css i = o.cells ∧ o.ok := by
    intro i hin
    obtain ⟨hlen, hwd, m, pl, htr⟩ := hi i hin
    obtain ⟨h3, hf⟩ := open_fields Try.underlying28 (by kernel_rfl) (by kernel_rfl) htr hwd
    obtain ⟨v0, m0, y0, c0, t0, _⟩ := hf 0 _ rfl
    obtain ⟨v1, m1, y1, c1, t1, _⟩ := hf 1 _ rfl
    obtain ⟨v2, m2, y2, c2, t2, _⟩ := hf 2 _ rfl
    obtain ⟨k, e0, _, w0⟩ := DataW.trod_int Try.underlying3 t0
    obtain ⟨s, e1, _, w1⟩ := DataW.trod_string Try.underlying9 t1
    obtain ⟨x, e2, _, w2⟩ := DataW.trod_int Try.underlying2 t2
    simp only [List.cons.injEq, and_true] at e0 e1 e2
    subst e0 e1 e2
    refine ⟨⟨k, s, x⟩, ?_, w1, w2⟩
    generalize css i = l at *
    match l, hlen, c0, c1, c2 with
    | [a, b, c], _, c0, c1, c2 =>
      simp at c0 c1 c2
      subst c0 c1 c2; rfl
  obtain ⟨os, hl, hz⟩ := list_choice _ n hch
  have e1 : (List.range n).flatMap css = os.flatMap OpV.cells := by
    rw [← hl, flat_range OpV.cells css os fun i e hie => (hz i e hie).1]
  rw [e1] at hc
  refine ⟨A, n, c, os, rfl, hc.1, hc.2.1, fun o ho => ?_⟩
  obtain ⟨i, hi1, hi2⟩ := List.getElem_of_mem ho
  exact (hz i o (by rw [List.getElem?_eq_getElem hi1, hi2])).2
end Go.Proofs.Ytgljnlafjolfpaa
