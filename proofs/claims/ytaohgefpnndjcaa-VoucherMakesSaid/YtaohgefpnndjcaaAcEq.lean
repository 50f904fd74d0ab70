/-
  Two accounts held against each other.
-/
import Derived.Test.YtaohgefpnndjcaaChGet
import Derived.Laws.StructEq
namespace Go.Proofs.Ytaohgefpnndjcaa
set_option linter.unusedVariables false
open Go.RowKit
set_option maxRecDepth 100000 in
theorem eqIn_ac (W : World) (x y : Ac) : (Op.equalIn 10000 46 (acV x) (acV y)).run Try.prog W = .ok (decide (x = y)) W := by
  unfold acV
  rw [run_equalIn_agg W 9999 46 _ _ (by kernel_rfl) (by kernel_rfl)]
  obtain ⟨fs, hfs⟩ : ∃ fs, (Try.prog.fieldsOf 46).toList = fs := ⟨_, rfl⟩
  rw [hfs]
  have e : fs = (Try.prog.fieldsOf 46).toList := hfs.symm
  simp [go_sem] at e
  clear hfs
  subst e
  obtain ⟨xn, xh, xs, xl⟩ := x
  obtain ⟨yn, yh, ys, yl⟩ := y
  by_cases h1 : xn = yn
  · subst h1
    by_cases h2 : xh = yh
    · subst h2
      by_cases h3 : xs = ys
      · subst h3
        by_cases h4 : xl = yl
        · subst h4
          simp [go_sem, part]
        · simp [go_sem, part, h4]
      · simp [go_sem, part, h3]
    · simp [go_sem, part, h2]
  · simp [go_sem, part, h1]
theorem neq_ac (W : World) (x y : Ac) : (binOp .neq 46 (acV x) (acV y)).run Try.prog W = .ok (.bool (!decide (x = y))) W := by
  have := eqIn_ac W x y
  unfold acV at *
  rw [run_neq_struct, this]; rfl
theorem eql_ac (W : World) (x y : Ac) : (binOp .eql 46 (acV x) (acV y)).run Try.prog W = .ok (.bool (decide (x = y))) W := by
  have := eqIn_ac W x y
  unfold acV at *
  rw [run_eql_struct, this]; rfl
end Go.Proofs.Ytaohgefpnndjcaa
