/-
  The reference's matrix of bools: a slice of rows, each row a block of its own.
-/
import Derived.Test.YtenlpklgpcnfiaaKnLgP
import Derived.Test.YtenlpklgpcnfiaaKnK
namespace Go.Proofs.Ytenlpklgpcnfiaa
set_option linter.unusedVariables false
open Go.RowKit
def mrow (n i : Nat) (q : Nat → Nat) : Nat → SV := fun a => if a < i then ⟨some ⟨q a, 0, none⟩, n, n⟩ else ⟨none, 0, 0⟩
structure MMem (w0 w : World) (M n i : Nat) (q : Nat → Nat) (m : Nat → Nat → Bool) : Prop where
  m0 : Mod none_ w0 w
  fM : w0.heap.size ≤ M
  bM : Blk w M 23 (rowS n (mrow n i q))
  row : ∀ a, a < i → Blk w (q a) 4 (rowT n (m a))
  fq : ∀ a, a < i → w0.heap.size ≤ q a
  neM : ∀ a, a < i → q a ≠ M
  inj : ∀ a b, a < i → b < i → a ≠ b → q a ≠ q b
theorem mrow_upd {n i : Nat} {q : Nat → Nat} {g : Nat} : upd (mrow n i q) i ⟨some ⟨g, 0, none⟩, n, n⟩ = mrow n (i + 1) (upd q i g) := by
  funext a
  unfold mrow
  by_cases e : a = i
  · subst e; rw [upd_self, upd_self, if_pos (by omega)]
  · rw [upd_ne _ _ e, upd_ne _ _ e]
    by_cases h : a < i
    · rw [if_pos h, if_pos (by omega)]
    · rw [if_neg h, if_neg (by omega)]
/-- a cell of a row is set -/
theorem MMem.set {w0 w : World} {M n i : Nat} {q : Nat → Nat} {m : Nat → Nat → Bool} (h : MMem w0 w M n i q m) {a : Nat} (ha : a < i) (v : Nat) (x : Bool) :
    MMem w0 (w.setCell ⟨q a, v, none⟩ (.bool x)) M n i q (upd m a (upd (m a) v x)) := by
  have hm : Mod (fun j => j = q a) w (w.setCell ⟨q a, v, none⟩ (.bool x)) := (Mod.refl (fun j => j = q a) w).setCell (p := ⟨q a, v, none⟩) (.inl rfl) _
  refine ⟨h.m0.then hm fun j hj e => by have := h.fq a ha; omega, h.fM, h.bM.far (fun e => h.neM a ha e.symm) _, fun b hb => ?_, h.fq, h.neM, h.inj⟩
  by_cases e : b = a
  · subst e
    rw [upd_self, ← rowT_set]
    exact (h.row b hb).set_ v _
  · rw [upd_ne _ _ e]
    exact (h.row b hb).far (h.inj b a hb ha e) _
/-- a new row is made and stored -/
theorem MMem.new {w0 w : World} {M n i : Nat} {q : Nat → Nat} {m : Nat → Nat → Bool} (h : MMem w0 w M n i q m) (f : Nat → Bool) :
    MMem w0 ((w.alloc (.cells (rowT n f) 4)).setCell ⟨M, i, none⟩ (.slice (some ⟨w.heap.size, 0, none⟩) n n)) M n (i + 1) (upd q i w.heap.size) (upd m i f) := by
  have hN := Blk.new w 4 (rowT n f)
  have hB := h.bM.alloc (.cells (rowT n f) 4)
  have hr : ∀ a, a < i → Blk (w.alloc (.cells (rowT n f) 4)) (q a) 4 (rowT n (m a)) := fun a ha => (h.row a ha).alloc _
  have hl : ∀ a, a < i → q a < w.heap.size := fun a ha => (h.row a ha).lt
  have hM := h.bM.lt
  have hs := h.m0.size
  have h0 := h.m0.alloc (.cells (rowT n f) 4)
  generalize w.alloc (.cells (rowT n f) 4) = W at *
  have hm : Mod (fun j => j = M) W (W.setCell ⟨M, i, none⟩ (.slice (some ⟨w.heap.size, 0, none⟩) n n)) := (Mod.refl (fun j => j = M) W).setCell (p := ⟨M, i, none⟩) (.inl rfl) _
  refine ⟨h0.then hm fun j hj e => by have := h.fM; omega, h.fM, ?_, fun a ha => ?_, fun a ha => ?_, fun a ha => ?_, fun a b ha hb hab => ?_⟩
  · have := hB.set_ i (.slice (some ⟨w.heap.size, 0, none⟩) n n)
    rw [rowS_set n (mrow n i q) i ⟨some ⟨w.heap.size, 0, none⟩, n, n⟩, mrow_upd] at this
    exact this
  · by_cases e : a = i
    · subst e; rw [upd_self, upd_self]; exact hN.far (by dsimp only; omega) _
    · rw [upd_ne _ _ e, upd_ne _ _ e]; exact (hr a (by omega)).far (h.neM a (by omega)) _
  · by_cases e : a = i
    · subst e; rw [upd_self]; omega
    · rw [upd_ne _ _ e]; exact h.fq a (by omega)
  · by_cases e : a = i
    · subst e; rw [upd_self]; omega
    · rw [upd_ne _ _ e]; exact h.neM a (by omega)
  · by_cases ea : a = i
    · by_cases eb : b = i
      · omega
      · rw [ea, upd_self, upd_ne _ _ eb]; have := hl b (by omega); omega
    · by_cases eb : b = i
      · rw [eb, upd_self, upd_ne _ _ ea]; have := hl a (by omega); omega
      · rw [upd_ne _ _ ea, upd_ne _ _ eb]; exact h.inj a b (by omega) (by omega) hab
theorem MMem.cell {w0 w : World} {M n i : Nat} {q : Nat → Nat} {m : Nat → Nat → Bool} (h : MMem w0 w M n i q m) {a v : Nat} (ha : a < i) (hi : i ≤ n) (hv : v < n) :
    w.cell? ⟨M, a, none⟩ = some (.slice (some ⟨q a, 0, none⟩) n n) ∧ w.cell? ⟨q a, v, none⟩ = some (.bool (m a v)) ∧ w.frozen? ⟨q a, v, none⟩ = false := by
  refine ⟨?_, (h.row a ha).cell_ (rowT_get _ hv), (h.row a ha).frozen v⟩
  have := h.bM.cell_ (rowS_get (mrow n i q) (show a < n by omega))
  unfold mrow at this
  rw [if_pos ha] at this
  exact this
/-- the row and the column of the new inner node stay -/
theorem via_row {g : List (List Int)} {t c : Nat} : Via g (t + 1) t c ↔ Via g t t c :=
  ⟨fun h => (via_iff.1 h).elim id fun h => h.2, fun h => via_iff.2 (.inl h)⟩
theorem via_col {g : List (List Int)} {t a : Nat} : Via g (t + 1) a t ↔ Via g t a t :=
  ⟨fun h => (via_iff.1 h).elim id fun h => h.1, fun h => via_iff.2 (.inl h)⟩
end Go.Proofs.Ytenlpklgpcnfiaa
