/-
  A script that came in: opened step by step. No condition.
-/
import Derived.Test.YtnemlmhmemndhaaLawNilRow
import Derived.Test.YtnemlmhmemndhaaEarly
namespace Go.Proofs.Ytnemlmhmemndhaa
set_option linter.unusedVariables false
open Go.ChangeShapes Go.WideShapes Go.ChangeAt Go.RowKit Go.Deep

theorem open_script {H : Type} {enc : TypeId × Value → H} {w : World} {held : Bool} {fuel : Nat} {cs : List Value} {x : DataW H × List MemPlace}
    (h : DataW.trod enc Try.prog w 0 (fun _ => true) held fuel 22 cs = some x) (hw : Wd Try.prog 22 x.1) :
    ∃ (A : Option Addr) (n c : Nat) (es : List OpE), cs = [.slice A n c] ∧ Scr w w.heap.size A n es ∧ n ≤ c ∧ c ≤ 140737488351232 := by
  obtain ⟨A, n, c, css, D, rfl, hc, hi⟩ := open_any Try.underlying22 (by kernel_rfl : Try.prog.cellsOf 30 = 5) (by omega) h hw
  have hch : ∀ i, i < n → ∃ e : OpE, css i = e.cells ∧ e.ok w w.heap.size := by
    intro i hin
    obtain ⟨_, hwd, m, pl, htr⟩ := hi i hin
    obtain ⟨o, B, T, Y, hcs, hat⟩ := open_op htr hwd
    exact ⟨⟨o, B, T, Y⟩, hcs, hat⟩
  obtain ⟨es, hl, hz⟩ := list_choice _ n hch
  have e1 : (List.range n).flatMap css = es.flatMap OpE.cells := by
    rw [← hl, flat_range OpE.cells css es fun i e hie => (hz i e hie).1]
  rw [e1] at hc
  have b1 : Try.prog.bytesOf 30 = 88 := by kernel_rfl
  refine ⟨A, n, c, es, rfl, ⟨hc.1, fun e he => ?_⟩, hc.2.1, ?_⟩
  · obtain ⟨i, hi1, hi2⟩ := List.getElem_of_mem he
    exact (hz i e (by rw [List.getElem?_eq_getElem hi1, hi2])).2
  · have := hc.2.2.2.1
    rw [b1] at this
    omega
end Go.Proofs.Ytnemlmhmemndhaa
