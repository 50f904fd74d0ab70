import Derived.Test.YtdekehhmjehicaaGreatQp22
import Derived.Test.YtdekehhmjehicaaGreatQp21
import Derived.ShutString
/-
  PostPlays: for every input the law returns true, and each argument reads as it did. No condition.
-/
namespace Go.Proofs.YtdekehhmjehicaaGreat.lawPlays
open Go.ChangeShapes Go.WideShapes Go.ChangeAt Go.RowKit Go.Deep
open Go.ChangeMaps (open_string shut_string)
set_option linter.unusedVariables false

set_option maxRecDepth 100000 in
theorem lifted (os : Os) (started : os.Started) (H : Type) (enc : TypeId × Value → H) :
    ReturnsInHanded {} Tryz.checked os 3 .any (Rows.postPlaysSpec.pre6 enc Tryz.prog Tryz.f3 Rows.postPlaysRow.domain false) (Rows.postPlaysSpec.post enc Tryz.prog Tryz.f3 false true false false) := by
  refine returnsInHanded_of_change_sized (C := Tryz.checked) (by kernel_rfl) started (by kernel_rfl) Tryz.func3
    (ChangeSpec.witness6 (enc := enc) (C := Tryz.checked) false ⟨#[], #[.slice none 0 0], []⟩ 8 (by kernel_rfl) (by kernel_rfl) (by kernel_rfl) (by kernel_rfl)) ?_
  intro W base args ds gs before hval0 hW hcnd hsz _
  have hval : ∀ (j : Nat) t v, Tryz.f3.params[j]? = some t → args[j]? = some v → Value.okWide Tryz.prog W .any base t v := hval0
  have hW' := hW
  obtain ⟨p, q, hA0, hV, rfl, hfz, hnd⟩ := hW
  have hA : DataW.TrodAll enc Tryz.prog W 0 (fun _ => true) true Tryz.f3.params.toList args.toList ds p := hA0
  rw [Tryz.params3] at hA hval
  have laidOut : laidOutB Tryz.prog = true := by kernel_rfl
  obtain ⟨v0, vs0, d0, ds0, p0, q0, hargs, rfl, rfl, h0, r0⟩ := trodAll_cons hA
  obtain ⟨rfl, rfl, rfl⟩ := trodAll_nil r0
  obtain rfl : args = #[v0] := by cases args; simp_all
  obtain ⟨rfl, rfl⟩ := trodVars_none hV
  have k0 := h0
  have lt0 : ∀ x ∈ p0, x.block < W.heap.size := by obtain ⟨m, hm⟩ := k0; exact DataW.trod_lt m _ _ _ hm
  have w0 : Wd Tryz.prog 22 d0 := wd_arg hsz (j := 0) rfl rfl
  obtain ⟨fuel0, f0⟩ := h0
  obtain ⟨A0, n0, c0, os0, hcs0, rd0, nc0, nb0, ok0⟩ := open_steps f0 w0
  obtain ⟨a_, n_, c_, rfl⟩ := okWide_slice Tryz.underlying22 (hval 0 22 v0 rfl rfl)
  simp only [Value.cells, List.cons.injEq, and_true] at hcs0
  obtain ⟨rfl, rfl, rfl⟩ : A0 = a_ ∧ n0 = n_ ∧ c0 = c_ := by injection hcs0 with x1 x2 x3; exact ⟨x1.symm, x2.symm, x3.symm⟩
  clear hA0 hval0
  refine ((postPlays_walk W A0 n0 c0 os0 rd0 ok0).mono (fun e w' h => (⟨h.1, h.2.below0⟩ : _ ∧ _))).mono fun e W' ⟨he, bel⟩ => ?_
  subst he
  exact ⟨_, rfl, _, _, _, [], _, [], hW', trodAll_mk1 (shut_bool Tryz.underlying4 _), (trodAll_cons_mk (Below.trod laidOut (by kernel_rfl) (of_decide_eq_true (by kernel_rfl)) k0 bel lt0) trodAll_mk0), rfl, bel.frame _, fun h => by cases h⟩

theorem over : Rows.postPlaysRow.holds Tryz.pinned (OpenSpec.ofChange Rows.postPlaysSpec) :=
  OpenClaim.holds_of_wide 3 Tryz.f3 rfl rfl rfl rfl rfl rfl rfl ⟨rfl, rfl, rfl, rfl, rfl⟩ rfl rfl rfl rfl rfl (by kernel_rfl) Tryz.func3 (by kernel_rfl)
    (of_decide_eq_true (by kernel_rfl)) (by unfold Func.isWrapper; first | (rw [if_pos (by decide +kernel)]; kernel_rfl) | (rw [if_neg (by decide +kernel)]; exact ⟨rfl, rfl⟩))
    (fun os started H enc _ => lifted os started H enc)

theorem proved : Rows.PostPlaysSaid := over
end Go.Proofs.YtdekehhmjehicaaGreat.lawPlays
