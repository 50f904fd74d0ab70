/-
  Knots: a graph, and a row of truths, that came in.
-/
import Derived.Test.YtenlpklgpcnfiaaOpen
import Derived.Test.YtenlpklgpcnfiaaKnO
namespace Go.Proofs.Ytenlpklgpcnfiaa
set_option linter.unusedVariables false
open Go.ChangeShapes Go.WideShapes Go.ChangeAt Go.RowKit Go.Deep
set_option maxRecDepth 100000 in
theorem open_graph {H : Type} {enc : TypeId × Value → H} {w : World} {held : Bool} {fuel : Nat} {cs : List Value} {x : DataW H × List MemPlace}
    (h : DataW.trod enc Try.prog w 0 (fun _ => true) held fuel 22 cs = some x) (hw : Wd Try.prog 22 x.1) :
    ∃ (A : Option Addr) (n c : Nat) (ss : List SV) (g : List (List Int)), cs = [.slice A n c] ∧ n ≤ c ∧ RdG w A n ss g := by
  obtain ⟨A, n, c, css, D, rfl, hc, hi⟩ := open_any Try.underlying22 (by kernel_rfl : Try.prog.cellsOf 28 = 1) (by omega) h hw
  have hch : ∀ i, i < n → ∃ e : SV × List Int, css i = [e.1.v] ∧ RdI w e.1.a e.1.n e.2 ∧ e.1.n ≤ e.1.c ∧ e.1.n ≤ 140737488355328 := by
    intro i hin
    obtain ⟨_, hwd, m, pl, htr⟩ := hi i hin
    obtain ⟨B, k, d, l, hcs, hcm, _⟩ := open_nums Try.underlying28 Try.underlying3 (by kernel_rfl) htr hwd
    have b2 : Try.prog.bytesOf 3 = 8 := by kernel_rfl
    rw [b2] at hcm
    exact ⟨(⟨B, k, d⟩, l), hcs, hcm.1, hcm.2.1, by have h1 := hcm.2.1; have h2 := hcm.2.2.2.1; dsimp only; omega⟩
  obtain ⟨es, hl, hz⟩ := list_choice _ n hch
  have e1 : (List.range n).flatMap css = (es.map (·.1)).map SV.v := by
    rw [← hl, flat_range (fun e : SV × List Int => [e.1.v]) css es fun i e hie => (hz i e hie).1]
    clear hz hl
    induction es with
    | nil => rfl
    | cons z zs ih => simp [List.flatMap_cons, ih]
  rw [e1] at hc
  refine ⟨A, n, c, es.map (·.1), es.map (·.2), rfl, hc.2.1, hc.1, by simp, fun i s l hs hl2 => ?_⟩
  rw [List.getElem?_map] at hs hl2
  cases he : es[i]? with
  | none => rw [he] at hs; cases hs
  | some e =>
    rw [he] at hs hl2
    cases hs; cases hl2
    exact (hz i e he).2
theorem open_bools {H : Type} {enc : TypeId × Value → H} {w : World} {held : Bool} {fuel : Nat} {cs : List Value} {x : DataW H × List MemPlace}
    (h : DataW.trod enc Try.prog w 0 (fun _ => true) held fuel 23 cs = some x) (hw : Wd Try.prog 23 x.1) :
    ∃ (A : Option Addr) (n c : Nat) (l : List Bool), cs = [.slice A n c] ∧ n ≤ 140737488355328 ∧ Rd w 1 A n (tvs l) := by
  obtain ⟨A, n, c, css, D, rfl, hc, hi⟩ := open_any Try.underlying23 (by kernel_rfl : Try.prog.cellsOf 4 = 1) (by omega) h hw
  have b2 : Try.prog.bytesOf 4 = 1 := by kernel_rfl
  rw [b2] at hc
  have hch : ∀ i, i < n → ∃ z : Bool, css i = [.bool z] := by
    intro i hin
    obtain ⟨_, _, m, pl, htr⟩ := hi i hin
    obtain ⟨z, hz, _⟩ := DataW.trod_bool Try.underlying4 htr
    exact ⟨z, hz⟩
  obtain ⟨zs, hl, hz⟩ := list_choice _ n hch
  have e1 : (List.range n).flatMap css = tvs zs := by
    rw [← hl, flat_range (fun z => [Value.bool z]) css zs fun i e hie => hz i e hie]
    clear hz hl
    unfold tvs
    induction zs with
    | nil => rfl
    | cons z zs ih => simp [List.flatMap_cons, ih]
  rw [e1] at hc
  exact ⟨A, n, c, zs, rfl, by have h1 := hc.2.1; have h2 := hc.2.2.2.1; omega, hc.1⟩
end Go.Proofs.Ytenlpklgpcnfiaa
