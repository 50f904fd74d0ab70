/-
  Slices of strings: read only, and of the call's own; append; how a []string argument reads. No condition.
-/
import Derived.Test.YtnjgcdijpkbloaaApp
import Derived.Test.YtnjgcdijpkbloaaOpen
namespace Go.Proofs.Ytnjgcdijpkbloaa
set_option linter.unusedVariables false
open Go.RowKit
def svs (l : List (List UInt8)) : List Value := l.map fun s => .string (txt s)
theorem svs_length (l : List (List UInt8)) : (svs l).length = l.length := by simp [svs]
theorem svs_append (a b : List (List UInt8)) : svs (a ++ b) = svs a ++ svs b := by simp [svs]
theorem svs_take (a : List (List UInt8)) (k : Nat) : svs (a.take k) = (svs a).take k := by simp [svs, List.map_take]
theorem svs_set (l : List (List UInt8)) (k : Nat) (b : List UInt8) : svs (l.set k b) = (svs l).set k (.string (txt b)) := by simp [svs, List.map_set]
theorem svs_one (l : List (List UInt8)) : ∀ u ∈ svs l, u.oneCell' = true := by
  intro u hu
  simp only [svs, List.mem_map] at hu
  obtain ⟨b, _, rfl⟩ := hu
  rfl
theorem svs_get {l : List (List UInt8)} {k : Nat} (h : k < l.length) : (svs l)[k]? = some (.string (txt l[k])) := by simp [svs, h]
def RdS (w : World) (A : Option Addr) (n : Nat) (l : List (List UInt8)) : Prop := Rd w 1 A n (svs l)
def OwS (w : World) (A : Option Addr) (n c : Nat) (l : List (List UInt8)) : Prop := Ow w 9 1 A n c (svs l)
theorem OwS.nil (w : World) : OwS w none 0 0 [] := Ow.nil _ _ _
theorem RdS.len {w : World} {A : Option Addr} {n : Nat} {l : List (List UInt8)} (h : RdS w A n l) : l.length = n := by have := h.1; rw [svs_length] at this; omega
theorem rds_at {w : World} {A : Option Addr} {n : Nat} {l : List (List UInt8)} (h : RdS w A n l) {j : Nat} (hj : j < n) : ∃ b o, A = some ⟨b, o, none⟩ ∧ ∃ hl : j < l.length, w.cell? ⟨b, o + j, none⟩ = some (.string (txt l[j])) := by
  obtain ⟨b, o, e, hc⟩ := Rd.form h (by omega) (by omega)
  have hl : j < l.length := by rw [h.len]; exact hj
  exact ⟨b, o, e, hl, hc j _ (svs_get hl)⟩
theorem rds_take {A : Option Addr} {w : World} {n : Nat} {l : List (List UInt8)} (h : RdS w A n l) {k : Nat} (hk : k ≤ n) : RdS w A k (l.take k) := by
  have := Rd.take_ h hk
  rwa [Nat.mul_one, ← svs_take] at this
theorem rdi_take {A : Option Addr} {w : World} {n : Nat} {l : List Int} (h : RdI w A n l) {k : Nat} (hk : k ≤ n) : RdI w A k (l.take k) := by
  have := Rd.take_ h hk
  rw [Nat.mul_one] at this
  have e : ivs (l.take k) = (ivs l).take k := by simp [ivs, List.map_take]
  unfold RdI
  rw [e]
  exact this
theorem strinfo : (Try.prog.info? 9).map (fun i => (i.zero, i.size, i.bytes)) = some (some (.string ⟨#[]⟩), 1, 16) := by kernel_rfl
theorem appS {w : World} {ops : Array Oper} {rest : List Oper} {o : Oper} {a : Act} {Q : Exit → Act → World → Prop} (hgd : o.guard = none) (s x : Operand)
    (ho : o.op = .call { callee := .builtin .append, args := #[s, x], argTypes := #[36, 36] })
    {A : Option Addr} {n c : Nat} {xs : List (List UInt8)} (hs : a.eval s = .slice A n c) (hown : OwS w A n c xs)
    {S : Option Addr} {m d : Nat} {news : List (List UInt8)} (hx : a.eval x = .slice S m d) (hr : RdS w S m news) (hb : (n + m) * 16 ≤ 140737488355328)
    (h : ∀ A' c' w', OwS w' A' (n + m) c' (xs ++ news) → Mod (fp A) w w' → (A' = A ∨ A' = some ⟨w.heap.size, 0, none⟩) → wpList Try.prog ops Q rest (a.put o.dst (.slice A' (n + m) c')) w') : wpList Try.prog ops Q (o :: rest) a w := by
  obtain ⟨i0, hi, hz0, hz1, hz2⟩ := info_parts strinfo
  refine wpList_append_ow hgd s x 36 ho 9 i0 _ 1 16 Try.underlying36 hi hz0 hz1 hz2 rfl (by omega) A n c (svs xs) hs hown S m d (svs news) hx hr (svs_one _) (by omega) (by omega) ?_
  intro A' c' w' h1
  rw [← svs_append] at h1
  exact h A' c' w' h1
theorem txt_of (s : ByteArray) : s = txt s.data.toList := rfl
/-- What came in as a []string. -/
theorem open_texts {H : Type} {enc : TypeId × Value → H} {w : World} {held : Bool} {fuel : Nat} {cs : List Value} {x : DataW H × List MemPlace}
    (h : DataW.trod enc Try.prog w 0 (fun _ => true) held fuel 36 cs = some x) (hw : Wd Try.prog 36 x.1) :
    ∃ (A : Option Addr) (n c : Nat) (ls : List (List UInt8)), cs = [.slice A n c] ∧ Came w 1 16 A n c (svs ls) ∧ ∀ s ∈ ls, s.length ≤ 140737488351232 := by
  obtain ⟨A, n, c, css, D, rfl, hc, hi⟩ := open_any Try.underlying36 (by kernel_rfl : Try.prog.cellsOf 9 = 1) (by omega) h hw
  rw [show Try.prog.bytesOf 9 = 16 by kernel_rfl] at hc
  have hch : ∀ i, i < n → ∃ z : List UInt8, css i = [.string (txt z)] ∧ z.length ≤ 140737488351232 := by
    intro i hin
    obtain ⟨_, hwd, m, pl, htr⟩ := hi i hin
    obtain ⟨z, hz, hx, _⟩ := DataW.trod_string Try.underlying9 htr
    simp only [Prod.mk.injEq] at hx
    refine ⟨z.data.toList, hz, ?_⟩
    rw [hx.1] at hwd
    exact hwd _ (by simp [DataW.weights])
  obtain ⟨zs, hl, hz⟩ := list_choice _ n hch
  refine ⟨A, n, c, zs, rfl, ?_, ?_⟩
  · have e1 : (List.range n).flatMap css = svs zs := by
      rw [← hl, flat_range (fun z => [Value.string (txt z)]) css zs fun i e hie => (hz i e hie).1]
      clear hz hl
      induction zs with
      | nil => rfl
      | cons z zs ih => simp only [List.flatMap_cons, ih, svs, List.map_cons]; rfl
    rwa [e1] at hc
  · intro z hm
    obtain ⟨i, hi1, hi2⟩ := List.getElem_of_mem hm
    exact (hz i z (by rw [List.getElem?_eq_getElem hi1, hi2])).2
end Go.Proofs.Ytnjgcdijpkbloaa
