/-
  A region that draws its order, whose own operations only read, and whose callees leave a world of a class 'D': walked once, in the order of the text. The class's worlds are the letters 's.W'. No condition.
-/
import Derived.Test.YtgljnlafjolfpaaMem
namespace Go.Proofs.Ytgljnlafjolfpaa
set_option linter.unusedVariables false
open Go.RowKit
/-- a world of a class, with the word for it -/
structure Cls (D : World → Prop) where
  W : World
  ok : D W
theorem wp_region_cls {P : Program} {id : Nat} {Q : Exit → Act → World → Prop} {a : Act} {w : World} {l : List Oper} (D : World → Prop) (hm : P.follows .mixedOrders = true) (hB : Region.lexB .any l.toArray = true) (hC : D w.drew)
    (h : wpQuiet P l.toArray (fun w' => ∃ s : Cls D, w' = s.W) (fun a' => ∀ w', (∃ s : Cls D, w' = s.W) → Q .normal a' w') l a) : (Code.region id l.toArray true).wp P Q a w :=
  wp_region_quiet (C := fun w' => ∃ s : Cls D, w' = s.W) hm hB ⟨⟨_, hC⟩, rfl⟩ (by simpa using h)
theorem cls_of {P : Program} {D : World → Prop} {f : FuncId} {args : Array Value} {w : World} {v : Value}
    (h : Calls P f args w fun e w' => e = .returned v ∧ D w') : Calls P f args w fun e w'' => e = .returned v ∧ ∃ t : Cls D, w'' = t.W :=
  h.mono fun _ _ ⟨he, hd⟩ => ⟨he, ⟨_, hd⟩, rfl⟩
end Go.Proofs.Ytgljnlafjolfpaa
