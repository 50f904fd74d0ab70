/-
  append of bytes as one step of the walk, with the types of this program filled in; slices of bytes that the walk builds. No condition.
-/
import Derived.Test.YtenlpklgpcnfiaaMem2
import Derived.Test.YtenlpklgpcnfiaaRows
namespace Go.Proofs.Ytenlpklgpcnfiaa
set_option linter.unusedVariables false
open Go.RowKit
theorem u8info : (Try.prog.info? 5).map (fun i => (i.zero, i.size, i.bytes)) = some (some (.int .u8 0), 1, 1) := by kernel_rfl
theorem rdb_one (w : World) (e : TypeId) {x : Int} {b : UInt8} (h : x = (b.toNat : Int)) : RdB (w.alloc (.cells #[.int .u8 x] e)) (some ⟨w.heap.size, 0, none⟩) 1 [b] := by
  subst h
  exact rdn w e 1 1 w.heap.size #[.int .u8 (b.toNat : Int)] (0, 0) rfl rfl
theorem i64info : (Try.prog.info? 2).map (fun i => (i.zero, i.size, i.bytes)) = some (some (.int .i64 0), 1, 8) := by kernel_rfl
def RdI (w : World) (A : Option Addr) (n : Nat) (l : List Int) : Prop := Rd w 1 A n (ivs l)
def OwI (w : World) (A : Option Addr) (n c : Nat) (l : List Int) : Prop := Ow w 2 1 A n c (ivs l)
theorem RdI.len {w : World} {A : Option Addr} {n : Nat} {l : List Int} (h : RdI w A n l) : l.length = n := by have := h.1; rw [ivs_length] at this; omega
theorem OwI.len {w : World} {A : Option Addr} {n c : Nat} {l : List Int} (h : OwI w A n c l) : l.length = n := by have := h.1; rw [ivs_length] at this; omega
theorem rdi_one (w : World) (e : TypeId) (x : Int) : RdI (w.alloc (.cells #[.int .i64 x] e)) (some ⟨w.heap.size, 0, none⟩) 1 [x] :=
  rdn w e 1 1 w.heap.size #[.int .i64 x] (0, 0) rfl rfl
/-- A row that was new stays new. -/
theorem Fresh.app {w w1 : World} {A A' : Option Addr} (h : Fresh w A) (hs : w.heap.size ≤ w1.heap.size) (hA : A' = A ∨ A' = some ⟨w1.heap.size, 0, none⟩) : Fresh w A' := by
  rcases hA with rfl | rfl
  · exact h
  · intro a ha; cases ha; exact hs
theorem Mod.app {w w1 w2 : World} {A : Option Addr} (h : Mod none_ w w1) (hf : Fresh w A) (h2 : Mod (fp A) w1 w2) : Mod none_ w w2 :=
  h.then h2 fun i hi hk => by
    obtain ⟨a, ha, rfl⟩ := hk
    have := hf a ha
    omega
end Go.Proofs.Ytenlpklgpcnfiaa
