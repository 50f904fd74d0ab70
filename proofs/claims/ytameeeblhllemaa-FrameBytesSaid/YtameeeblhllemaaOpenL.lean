/-
  Opening a list of texts of bytes that came in. No condition.
-/
import Derived.Test.YtameeeblhllemaaOpen
import Derived.Test.YtameeeblhllemaaLst
namespace Go.Proofs.Ytameeeblhllemaa
open Go.ChangeShapes Go.WideShapes Go.ChangeAt Go.RowKit Go.Deep
def LCame (w : World) (A : Option Addr) (n c : Nat) (ss : List SV) (ls : List (List UInt8)) : Prop :=
  Came w 1 24 A n c (ss.map SV.v) ∧ ss.length = ls.length ∧ ∀ (i : Nat) (s : SV) (l : List UInt8), ss[i]? = some s → ls[i]? = some l → Came w 1 1 s.a s.n s.c (bvs l)
section
variable {w : World} {A : Option Addr} {n c : Nat} {ss : List SV} {ls : List (List UInt8)}
theorem LCame.rdl (h : LCame w A n c ss ls) : RdL w A n ss ls := ⟨h.1.1, h.2.1, fun i s l hs hl => by
  have := h.2.2 i s l hs hl
  exact ⟨this.1, this.2.1, this.2.2.1⟩⟩
theorem LCame.lt (h : LCame w A n c ss ls) (i : Nat) (s : SV) (hs : ss[i]? = some s) (h0 : 0 < s.n) : ∀ k, fp s.a k → k < w.heap.size := by
  have hi : i < ls.length := by
    rw [← h.2.1]
    rcases Nat.lt_or_ge i ss.length with h1 | h1
    · exact h1
    · rw [List.getElem?_eq_none h1] at hs; cases hs
  exact (h.2.2 i s _ hs (List.getElem?_eq_getElem hi)).2.2.2.2 h0
end
theorem open_blist {H : Type} {enc : TypeId × Value → H} {w : World} {held : Bool} {fuel : Nat} {cs : List Value} {x : DataW H × List MemPlace}
    (h : DataW.trod enc Try.prog w 0 (fun _ => true) held fuel 23 cs = some x) (hw : Wd Try.prog 23 x.1) :
    ∃ (A : Option Addr) (n c : Nat) (ss : List SV) (ls : List (List UInt8)), cs = [.slice A n c] ∧ LCame w A n c ss ls := by
  obtain ⟨A, n, c, css, D, rfl, hc, hi⟩ := open_any Try.underlying23 (by kernel_rfl : Try.prog.cellsOf 22 = 1) (by omega) h hw
  have b1 : Try.prog.bytesOf 22 = 24 := by kernel_rfl
  have b2 : Try.prog.bytesOf 5 = 1 := by kernel_rfl
  rw [b1] at hc
  have hch : ∀ i, i < n → ∃ e : SV × List UInt8, css i = [e.1.v] ∧ Came w 1 1 e.1.a e.1.n e.1.c (bvs e.2) := by
    intro i hin
    obtain ⟨_, hwd, m, pl, htr⟩ := hi i hin
    obtain ⟨B, k, d, l, hcs, hcm⟩ := open_bytes Try.underlying22 Try.underlying5 (by kernel_rfl) htr hwd
    rw [b2] at hcm
    exact ⟨(⟨B, k, d⟩, l), hcs, hcm⟩
  obtain ⟨es, hl, hz⟩ := list_choice _ n hch
  have e1 : (List.range n).flatMap css = (es.map (·.1)).map SV.v := by
    rw [← hl, flat_range (fun e : SV × List UInt8 => [e.1.v]) css es fun i e hie => (hz i e hie).1]
    clear hz hl
    induction es with
    | nil => rfl
    | cons z zs ih => simp [List.flatMap_cons, ih]
  rw [e1] at hc
  refine ⟨A, n, c, es.map (·.1), es.map (·.2), rfl, hc, by simp, fun i s l hs hl2 => ?_⟩
  rw [List.getElem?_map] at hs hl2
  cases he : es[i]? with
  | none => rw [he] at hs; cases hs
  | some e =>
    rw [he] at hs hl2
    cases hs; cases hl2
    exact (hz i e he).2
end Go.Proofs.Ytameeeblhllemaa
