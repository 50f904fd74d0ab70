/-
  append of bytes as one step of the walk, with the types of this program filled in; slices of bytes that the walk builds. No condition.
-/
import Derived.Test.YtaohgefpnndjcaaMem2
import Derived.Test.YtaohgefpnndjcaaRows
namespace Go.Proofs.Ytaohgefpnndjcaa
set_option linter.unusedVariables false
open Go.RowKit
theorem u8info : (Try.prog.info? 5).map (fun i => (i.zero, i.size, i.bytes)) = some (some (.int .u8 0), 1, 1) := by kernel_rfl
theorem rdb_one (w : World) (e : TypeId) {x : Int} {b : UInt8} (h : x = (b.toNat : Int)) : RdB (w.alloc (.cells #[.int .u8 x] e)) (some ⟨w.heap.size, 0, none⟩) 1 [b] := by
  subst h
  exact rdn w e 1 1 w.heap.size #[.int .u8 (b.toNat : Int)] (0, 0) rfl rfl
theorem i64info : (Try.prog.info? 2).map (fun i => (i.zero, i.size, i.bytes)) = some (some (.int .i64 0), 1, 8) := by kernel_rfl
def RdI (w : World) (A : Option Addr) (n : Nat) (l : List Int) : Prop := Rd w 1 A n (ivs l)
def OwI (w : World) (A : Option Addr) (n c : Nat) (l : List Int) : Prop := Ow w 2 1 A n c (ivs l)
theorem RdI.len {w : World} {A : Option Addr} {n : Nat} {l : List Int} (h : RdI w A n l) : l.length = n := by have := h.1; rw [ivs_length] at this; omega
theorem OwI.len {w : World} {A : Option Addr} {n c : Nat} {l : List Int} (h : OwI w A n c l) : l.length = n := by have := h.1; rw [ivs_length] at this; omega
theorem app64 {w : World} {ops : Array Oper} {rest : List Oper} {o : Oper} {a : Act} {Q : Exit → Act → World → Prop} (hgd : o.guard = none) (s x : Operand)
    (ho : o.op = .call { callee := .builtin .append, args := #[s, x], argTypes := #[58, 58] })
    {A : Option Addr} {n c : Nat} {xs : List Int} (hs : a.eval s = .slice A n c) (hown : OwI w A n c xs)
    {S : Option Addr} {m d : Nat} {news : List Int} (hx : a.eval x = .slice S m d) (hr : RdI w S m news) (hb : (n + m) * 8 ≤ 140737488355328)
    (h : ∀ A' c' w', OwI w' A' (n + m) c' (xs ++ news) → Mod (fp A) w w' → (A' = A ∨ A' = some ⟨w.heap.size, 0, none⟩) → wpList Try.prog ops Q rest (a.put o.dst (.slice A' (n + m) c')) w') : wpList Try.prog ops Q (o :: rest) a w := by
  obtain ⟨i0, hi, hz0, hz1, hz2⟩ := info_parts i64info
  refine wpList_append_ow hgd s x 58 ho 2 i0 _ 1 8 Try.underlying58 hi hz0 hz1 hz2 rfl (by omega) A n c (ivs xs) hs hown S m d (ivs news) hx hr (ivs_one _) (by omega) (by omega) ?_
  intro A' c' w' h1
  rw [← ivs_append] at h1
  exact h A' c' w' h1
theorem rdi_one (w : World) (e : TypeId) (x : Int) : RdI (w.alloc (.cells #[.int .i64 x] e)) (some ⟨w.heap.size, 0, none⟩) 1 [x] :=
  rdn w e 1 1 w.heap.size #[.int .i64 x] (0, 0) rfl rfl
/-- A row that was new stays new. -/
theorem Fresh.app {w w1 : World} {A A' : Option Addr} (h : Fresh w A) (hs : w.heap.size ≤ w1.heap.size) (hA : A' = A ∨ A' = some ⟨w1.heap.size, 0, none⟩) : Fresh w A' := by
  rcases hA with rfl | rfl
  · exact h
  · intro a ha; cases ha; exact hs
theorem Mod.app {w w1 w2 : World} {A : Option Addr} (h : Mod none_ w w1) (hf : Fresh w A) (h2 : Mod (fp A) w1 w2) : Mod none_ w w2 :=
  h.then h2 fun i hi hk => by
    obtain ⟨a, ha, rfl⟩ := hk
    have := hf a ha
    omega
end Go.Proofs.Ytaohgefpnndjcaa
