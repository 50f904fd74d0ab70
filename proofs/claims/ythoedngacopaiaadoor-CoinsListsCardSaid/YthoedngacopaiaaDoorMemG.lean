/-
  append as a step of the walk behind a guard that lets it run. No condition.
-/
import Derived.Test.YthoedngacopaiaaDoorMem
namespace Go.Proofs.YthoedngacopaiaaDoor
set_option linter.unusedVariables false
open Go.RowKit
theorem wpList_append_owg {P : Program} {w : World} {ops : Array Oper} {rest : List Oper} {o : Oper} {a : Act} {Q : Exit → Act → World → Prop} (hw : Region.wanted o (yielded ops a.tmps) = true) (s x : Operand) (t : TypeId)
    (ho : o.op = .call { callee := .builtin .append, args := #[s, x], argTypes := #[t, t] })
    (e : TypeId) (i : TypeInfo) (z : Value) (size bytes : Nat) (ht : P.underlying t = some (.slice e)) (hi : P.info? e = some i) (hz : i.zero = some z)
    (hsize : i.size = size) (hby : i.bytes = bytes) (hzs : z.cells.size = size) (hsz : 0 < size)
    (A : Option Addr) (n c : Nat) (xs : List Value) (hs : a.eval s = .slice A n c) (hown : Ow w e size A n c xs)
    (S : Option Addr) (m d : Nat) (news : List Value) (hx : a.eval x = .slice S m d) (hr : Rd w size S m news) (h1 : ∀ u ∈ news, u.oneCell' = true)
    (hbytes : (n + m) * bytes ≤ 140737488355328) (h63 : n + m ≤ 9223372036854775807)
    (h : ∀ A' c' w', Ow w' e size A' (n + m) c' (xs ++ news) → Mod (fp A) w w' → (A' = A ∨ A' = some ⟨w.heap.size, 0, none⟩) → wpList P ops Q rest (a.put o.dst (.slice A' (n + m) c')) w') : wpList P ops Q (o :: rest) a w :=
  wpList_step fun _ hK => by
    rw [if_pos hw]
    exact wp_append_ow w s x t ho e i z size bytes ht hi hz hsize hby hzs hsz A n c xs hs hown S m d news hx hr h1 hbytes h63 fun A' c' w' h2 h3 h4 => hK _ _ (h A' c' w' h2 h3 h4)
theorem Mod.then_own {w w1 w2 : World} {A : Option Addr} (hm : Mod (fp none) w w1) (hA : A = none ∨ A = some ⟨w.heap.size, 0, none⟩) (hm2 : Mod (fp A) w1 w2) : Mod none_ w w2 := by
  refine (hm.mono (G := none_) ?_).then hm2 ?_
  · rintro i ⟨a, ha, _⟩; cases ha
  · rintro i hi ⟨a, ha, rfl⟩
    rcases hA with rfl | rfl
    · cases ha
    · cases ha; simp only at hi; omega
theorem Mod.nil_own {w w1 : World} (hm : Mod (fp none) w w1) : Mod none_ w w1 := hm.mono (G := none_) (by rintro i ⟨a, ha, _⟩; cases ha)
end Go.Proofs.YthoedngacopaiaaDoor
