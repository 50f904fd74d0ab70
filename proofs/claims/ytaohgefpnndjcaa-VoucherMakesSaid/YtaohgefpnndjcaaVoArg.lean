/-
  How lists of accounts and of legs read as arguments.
-/
import Derived.Test.YtaohgefpnndjcaaVo1
import Derived.Test.YtaohgefpnndjcaaOpen
import Derived.Lib.SmallJoins
namespace Go.Proofs.Ytaohgefpnndjcaa
set_option linter.unusedVariables false
open Go.ChangeShapes Go.WideShapes Go.ChangeAt Go.RowKit Go.Deep
/-- what an account of an argument is -/
def AcOk (a : Ac) : Prop := (txt a.n).size ≤ maxLen ∧ I64 a.h ∧ I64 a.s ∧ I64 a.l
theorem i64_wf {x : Int} (h : (Lit.int .i64 x).wf = true) : I64 x := by
  unfold I64
  simpa [Lit.wf, IntKind.min, IntKind.max, IntKind.signed, IntKind.bits] using h
set_option maxRecDepth 100000 in
theorem open_accts {H : Type} {enc : TypeId × Value → H} {w : World} {held : Bool} {fuel : Nat} {cs : List Value} {x : DataW H × List MemPlace}
    (h : DataW.trod enc Try.prog w 0 (fun _ => true) held fuel 22 cs = some x) (hw : Wd Try.prog 22 x.1) :
    ∃ (A : Option Addr) (n c : Nat) (os : List Ac), cs = [.slice A n c] ∧ RdA w A n os ∧ n ≤ c ∧ (∀ o ∈ os, AcOk o) := by
  obtain ⟨A, n, c, css, D, rfl, hc, hi⟩ := open_any Try.underlying22 (by kernel_rfl : Try.prog.cellsOf 46 = 4) (by omega) h hw
  have hch : ∀ i, i < n → ∃ o : Ac, css i = [.string (txt o.n), .int .i64 o.h, .int .i64 o.s, .int .i64 o.l] ∧ AcOk o := by
    intro i hin
    obtain ⟨hlen, hwd, m, pl, htr⟩ := hi i hin
    obtain ⟨h3, hf⟩ := open_fields Try.underlying46 (by kernel_rfl) (by kernel_rfl) htr hwd
    obtain ⟨v0, m0, y0, c0, t0, _⟩ := hf 0 _ rfl
    obtain ⟨v1, m1, y1, c1, t1, _⟩ := hf 1 _ rfl
    obtain ⟨v2, m2, y2, c2, t2, _⟩ := hf 2 _ rfl
    obtain ⟨v3, m3, y3, c3, t3, _⟩ := hf 3 _ rfl
    obtain ⟨s, e0, _, w0⟩ := DataW.trod_string Try.underlying9 t0
    obtain ⟨x1, e1, _, w1⟩ := DataW.trod_int Try.underlying2 t1
    obtain ⟨x2, e2, _, w2⟩ := DataW.trod_int Try.underlying2 t2
    obtain ⟨x3, e3, _, w3⟩ := DataW.trod_int Try.underlying2 t3
    simp only [List.cons.injEq, and_true] at e0 e1 e2 e3
    subst e0 e1 e2 e3
    refine ⟨⟨s.data.toList, x1, x2, x3⟩, ?_, w0, i64_wf w1, i64_wf w2, i64_wf w3⟩
    generalize css i = l at *
    match l, hlen, c0, c1, c2, c3 with
    | [a, b, c, d], _, c0, c1, c2, c3 =>
      simp at c0 c1 c2 c3
      subst c0 c1 c2 c3; rfl
  obtain ⟨os, hl, hz⟩ := list_choice _ n hch
  have e1 : (List.range n).flatMap css = acs os := by
    unfold acs
    rw [← hl, flat_range (fun a : Ac => [Value.string (txt a.n), .int .i64 a.h, .int .i64 a.s, .int .i64 a.l]) css os fun i e hie => (hz i e hie).1]
  rw [e1] at hc
  refine ⟨A, n, c, os, rfl, hc.1, hc.2.1, fun o ho => ?_⟩
  obtain ⟨i, hi1, hi2⟩ := List.getElem_of_mem ho
  exact (hz i o (by rw [List.getElem?_eq_getElem hi1, hi2])).2
set_option maxRecDepth 100000 in
theorem open_legs {H : Type} {enc : TypeId × Value → H} {w : World} {held : Bool} {fuel : Nat} {cs : List Value} {x : DataW H × List MemPlace}
    (h : DataW.trod enc Try.prog w 0 (fun _ => true) held fuel 23 cs = some x) (hw : Wd Try.prog 23 x.1) :
    ∃ (A : Option Addr) (n c : Nat) (os : List Lg), cs = [.slice A n c] ∧ RdL w A n os ∧ n ≤ c ∧ (∀ o ∈ os, LgOk o) := by
  obtain ⟨A, n, c, css, D, rfl, hc, hi⟩ := open_any Try.underlying23 (by kernel_rfl : Try.prog.cellsOf 44 = 2) (by omega) h hw
  have hch : ∀ i, i < n → ∃ o : Lg, css i = [.string (txt o.n), .int .i64 o.x] ∧ LgOk o := by
    intro i hin
    obtain ⟨hlen, hwd, m, pl, htr⟩ := hi i hin
    obtain ⟨h3, hf⟩ := open_fields Try.underlying44 (by kernel_rfl) (by kernel_rfl) htr hwd
    obtain ⟨v0, m0, y0, c0, t0, _⟩ := hf 0 _ rfl
    obtain ⟨v1, m1, y1, c1, t1, _⟩ := hf 1 _ rfl
    obtain ⟨s, e0, _, w0⟩ := DataW.trod_string Try.underlying9 t0
    obtain ⟨x1, e1, _, w1⟩ := DataW.trod_int Try.underlying2 t1
    simp only [List.cons.injEq, and_true] at e0 e1
    subst e0 e1
    refine ⟨⟨s.data.toList, x1⟩, ?_, w0, i64_wf w1⟩
    generalize css i = l at *
    match l, hlen, c0, c1 with
    | [a, b], _, c0, c1 =>
      simp at c0 c1
      subst c0 c1; rfl
  obtain ⟨os, hl, hz⟩ := list_choice _ n hch
  have e1 : (List.range n).flatMap css = lgs os := by
    unfold lgs
    rw [← hl, flat_range (fun l : Lg => [Value.string (txt l.n), .int .i64 l.x]) css os fun i e hie => (hz i e hie).1]
  rw [e1] at hc
  refine ⟨A, n, c, os, rfl, hc.1, hc.2.1, fun o ho => ?_⟩
  obtain ⟨i, hi1, hi2⟩ := List.getElem_of_mem ho
  exact (hz i o (by rw [List.getElem?_eq_getElem hi1, hi2])).2
end Go.Proofs.Ytaohgefpnndjcaa
