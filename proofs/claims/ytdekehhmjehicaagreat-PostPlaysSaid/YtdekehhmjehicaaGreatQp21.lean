import Derived.Test.YtdekehhmjehicaaGreatQp20
/-
  How lists of steps (a kind, a place, messages) read as arguments. No condition.
-/
namespace Go.Proofs.YtdekehhmjehicaaGreat
set_option linter.unusedVariables false
set_option linter.unusedSimpArgs false
open Go.ChangeShapes Go.WideShapes Go.ChangeAt Go.RowKit Go.Deep
/-- a step -/
structure St where
  kind : Int
  k : Int
  L : SV
  ms : List Ms
def stC (s : St) : List Value := [.int .i64 s.kind, .int .i64 s.k, .slice s.L.a s.L.n s.L.c]
def sts (ss : List St) : List Value := ss.flatMap stC
theorem sts_length (ss : List St) : (sts ss).length = ss.length * 3 := flat_length _ 3 (fun _ => rfl) ss
def StGood (w : World) (s : St) : Prop := RdM w s.L.a s.L.n s.ms ∧ s.L.n ≤ s.L.c ∧ s.L.n ≤ 140737488351232 ∧ ∀ x ∈ s.ms, MsGood w x
set_option maxRecDepth 100000 in
theorem open_steps {H : Type} {enc : TypeId × Value → H} {w : World} {held : Bool} {fuel : Nat} {cs : List Value} {x : DataW H × List MemPlace}
    (h : DataW.trod enc Tryz.prog w 0 (fun _ => true) held fuel 22 cs = some x) (hw : Wd Tryz.prog 22 x.1) :
    ∃ (A : Option Addr) (n c : Nat) (os : List St), cs = [.slice A n c] ∧ Rd w 3 A n (sts os) ∧ n ≤ c ∧ n ≤ 140737488351232 ∧ (∀ o ∈ os, StGood w o) := by
  obtain ⟨A, n, c, css, D, rfl, hc, hi⟩ := open_any Tryz.underlying22 (by kernel_rfl : Tryz.prog.cellsOf 31 = 3) (by omega) h hw
  have hch : ∀ i, i < n → ∃ o : St, css i = stC o ∧ StGood w o := by
    intro i hin
    obtain ⟨hlen, hwd, m, pl, htr⟩ := hi i hin
    obtain ⟨m0, y0, t0, w0⟩ := open_part Tryz.underlying31 htr hwd 0 _ rfl
    replace t0 := trod_cut t0 (o := 0) (k := 1) (by kernel_rfl) (by kernel_rfl)
    obtain ⟨x0, e0, _, f0⟩ := DataW.trod_int Tryz.underlying3 t0
    obtain ⟨m1, y1, t1, w1⟩ := open_part Tryz.underlying31 htr hwd 1 _ rfl
    replace t1 := trod_cut t1 (o := 1) (k := 1) (by kernel_rfl) (by kernel_rfl)
    obtain ⟨x1, e1, _, f1⟩ := DataW.trod_int Tryz.underlying3 t1
    obtain ⟨m2, y2, t2, w2⟩ := open_part Tryz.underlying31 htr hwd 2 _ rfl
    replace t2 := trod_cut t2 (o := 2) (k := 1) (by kernel_rfl) (by kernel_rfl)
    obtain ⟨LA, Ln, Lc, ls, e2, r2, c2, b2, g2⟩ := open_msgs t2 w2
    refine ⟨⟨x0, x1, ⟨LA, Ln, Lc⟩, ls⟩, ?_, r2, c2, b2, g2⟩
    apply List.ext_getElem?
    intro i
    match i with
    | 0 => exact one_at e0
    | 1 => exact one_at e1
    | 2 => exact one_at e2
    | i + 3 => rw [List.getElem?_eq_none (by omega)] <;> rfl
  obtain ⟨os, hl, hz⟩ := list_choice _ n hch
  have e1 : (List.range n).flatMap css = sts os := by
    unfold sts
    rw [← hl, flat_range stC css os fun i e hie => (hz i e hie).1]
  rw [e1] at hc
  refine ⟨A, n, c, os, rfl, hc.1, hc.2.1, ?_, fun o ho => ?_⟩
  · have h4 := hc.2.2.2.1
    have h2 := hc.2.1
    have hb : 1 ≤ Tryz.prog.bytesOf 31 := by
      have : Tryz.prog.bytesOf 31 = 40 := by kernel_rfl
      omega
    have := Nat.mul_le_mul_left c hb
    omega
  · obtain ⟨i, hi1, hi2⟩ := List.getElem_of_mem ho
    exact (hz i o (by rw [List.getElem?_eq_getElem hi1, hi2])).2
end Go.Proofs.YtdekehhmjehicaaGreat
