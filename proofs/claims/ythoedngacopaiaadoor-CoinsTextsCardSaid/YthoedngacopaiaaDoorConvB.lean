/-
  '[]byte(s)' as a step of the walk. No condition.
-/
import Derived.Test.YthoedngacopaiaaDoorMem2
import Derived.Test.YthoedngacopaiaaDoorRows
import Derived.Lib.ConvBytes
namespace Go.Proofs.YthoedngacopaiaaDoor
set_option linter.unusedVariables false
open Go.RowKit
theorem txt_size (l : List UInt8) : (txt l).size = l.length := by simp [txt, ByteArray.size]
theorem bytes_of_run (w : World) (l : List UInt8) : ∃ A c w', (convert 9 46 (.string (txt l))).run Tryd.prog w = .ok (.slice A l.length c) w' ∧ RdB w' A l.length l ∧ Fresh w A ∧ l.length ≤ c ∧ Mod none_ w w' ∧ (∀ k, fp A k → k < w'.heap.size) := by
  have h := Lib.run_convert_string_bytes (P := Tryd.prog) w 9 46 5 (txt l) Tryd.underlying9 Tryd.underlying46 Tryd.underlying5
  rw [txt_size] at h
  refine ⟨_, _, _, h, ⟨by simp [bvs_length], fun hn => ⟨_, rfl, fun j u hu => ?_⟩⟩, ?_, ?_, ⟨rfl, ?_, rfl, ?_, ?_⟩, ?_⟩
  · have hj : j < l.length := by
      have := (List.getElem?_eq_some_iff.1 hu).1
      simpa [bvs_length] using this
    rw [bvs_get hj] at hu
    have := Lib.bytesWorld_cell w 5 (txt l) j (by rw [txt_size]; exact hj)
    rw [add_lit, this, ← hu]
    have e : (txt l).data.toList = l := rfl
    rw [e]
    simp [List.getD, hj]
  · intro a ha; cases ha; exact Nat.le_refl _
  · exact grownCap_ge _ _ _ _
  · simp [Lib.bytesWorld, World.freeze, World.alloc, World.drew, -World.alloc_eq, -World.drew_eq]
  · rw [Lib.bytesWorld_size]; omega
  · intro k hk _; exact Lib.bytesWorld_at_old w _ _ k hk
  · rintro k ⟨a, ha, rfl⟩; cases ha; rw [Lib.bytesWorld_size]; simp
theorem conv_b {w : World} {ops : Array Oper} {rest : List Oper} {o : Oper} {a : Act} {Q : Exit → Act → World → Prop} (hgd : o.guard = none) (x : Operand) (ho : o.op = .convert 9 46 x)
    {l : List UInt8} (hx : a.eval x = .string (txt l))
    (h : ∀ A c w', RdB w' A l.length l → Fresh w A → l.length ≤ c → Mod none_ w w' → (∀ k, fp A k → k < w'.heap.size) → wpList Tryd.prog ops Q rest (a.put o.dst (.slice A l.length c)) w') : wpList Tryd.prog ops Q (o :: rest) a w := by
  refine wpList_plain hgd fun K hK => ?_
  obtain ⟨A, c, w', hrun, h1, h2, h3, h4, h5⟩ := bytes_of_run w l
  unfold Oper.wp
  simp [execOp, ho, hx, hrun, Result.andThen]
  exact hK _ _ (h A c w' h1 h2 h3 h4 h5)
end Go.Proofs.YthoedngacopaiaaDoor
