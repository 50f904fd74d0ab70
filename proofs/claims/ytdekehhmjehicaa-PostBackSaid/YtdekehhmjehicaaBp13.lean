import Derived.Test.YtdekehhmjehicaaBp12
import Derived.ShutString
/-
  PostBack: for every input the law returns true, and each argument reads as it did. No condition.
-/
namespace Go.Proofs.Ytdekehhmjehicaa.lawBack
open Go.ChangeShapes Go.WideShapes Go.ChangeAt Go.RowKit Go.Deep
open Go.ChangeMaps (open_string shut_string)
set_option linter.unusedVariables false

set_option maxRecDepth 100000 in
theorem lifted (os : Os) (started : os.Started) (H : Type) (enc : TypeId × Value → H) :
    ReturnsInHanded {} Try.checked os 3 .any (Rows.postBackSpec.pre6 enc Try.prog Try.f3 Rows.postBackRow.domain false) (Rows.postBackSpec.post enc Try.prog Try.f3 false true false false) := by
  refine returnsInHanded_of_change_sized (C := Try.checked) (by kernel_rfl) started (by kernel_rfl) Try.func3
    (ChangeSpec.witness6 (enc := enc) (C := Try.checked) false ⟨#[], #[.slice none 0 0, .slice none 0 0], []⟩ 8 (by kernel_rfl) (by kernel_rfl) (by kernel_rfl) (by kernel_rfl)) ?_
  intro W base args ds gs before hval0 hW hcnd hsz _
  have hval : ∀ (j : Nat) t v, Try.f3.params[j]? = some t → args[j]? = some v → Value.okWide Try.prog W .any base t v := hval0
  have hW' := hW
  obtain ⟨p, q, hA0, hV, rfl, hfz, hnd⟩ := hW
  have hA : DataW.TrodAll enc Try.prog W 0 (fun _ => true) true Try.f3.params.toList args.toList ds p := hA0
  rw [Try.params3] at hA hval
  have laidOut : laidOutB Try.prog = true := by kernel_rfl
  obtain ⟨v0, vs0, d0, ds0, p0, q0, hargs, rfl, rfl, h0, r0⟩ := trodAll_cons hA
  obtain ⟨v1, vs1, d1, ds1, p1, q1, rfl, rfl, rfl, h1, r1⟩ := trodAll_cons r0
  obtain ⟨rfl, rfl, rfl⟩ := trodAll_nil r1
  obtain rfl : args = #[v0, v1] := by cases args; simp_all
  obtain ⟨rfl, rfl⟩ := trodVars_none hV
  have k0 := h0
  have lt0 : ∀ x ∈ p0, x.block < W.heap.size := by obtain ⟨m, hm⟩ := k0; exact DataW.trod_lt m _ _ _ hm
  have w0 : Wd Try.prog 22 d0 := wd_arg hsz (j := 0) rfl rfl
  have k1 := h1
  have lt1 : ∀ x ∈ p1, x.block < W.heap.size := by obtain ⟨m, hm⟩ := k1; exact DataW.trod_lt m _ _ _ hm
  have w1 : Wd Try.prog 23 d1 := wd_arg hsz (j := 1) rfl rfl
  obtain ⟨fuel0, f0⟩ := h0
  obtain ⟨A0, n0, c0, os0, hcs0, rd0, nc0, nb0, ok0⟩ := open_msgs f0 w0
  obtain ⟨a_, n_, c_, rfl⟩ := okWide_slice Try.underlying22 (hval 0 22 v0 rfl rfl)
  simp only [Value.cells, List.cons.injEq, and_true] at hcs0
  obtain ⟨rfl, rfl, rfl⟩ : A0 = a_ ∧ n0 = n_ ∧ c0 = c_ := by injection hcs0 with x1 x2 x3; exact ⟨x1.symm, x2.symm, x3.symm⟩
  obtain ⟨fuel1, f1⟩ := h1
  obtain ⟨A1, n1, c1, l1, hcs1, cm1⟩ := open_bytes Try.underlying23 Try.underlying5 (by kernel_rfl) f1 w1
  rw [show Try.prog.bytesOf 5 = 1 by kernel_rfl] at cm1
  obtain ⟨a_, n_, c_, rfl⟩ := okWide_slice Try.underlying23 (hval 1 23 v1 rfl rfl)
  simp only [Value.cells, List.cons.injEq, and_true] at hcs1
  obtain ⟨rfl, rfl, rfl⟩ : A1 = a_ ∧ n1 = n_ ∧ c1 = c_ := by injection hcs1 with x1 x2 x3; exact ⟨x1.symm, x2.symm, x3.symm⟩
  clear hA0 hval0
  refine ((postBack_walk W A0 n0 c0 os0 rd0 (fun x hx => (ok0 x hx).1) (fun x hx => (ok0 x hx).2.1) (fun x hx => (ok0 x hx).2.2) (by omega) A1 n1 c1 l1 cm1.1 (by have h1 := cm1.2.1; have h2 := cm1.2.2.2.1; omega) cm1.2.1).mono (fun e w' h => (⟨h.1, h.2.below0⟩ : _ ∧ _))).mono fun e W' ⟨he, bel⟩ => ?_
  subst he
  exact ⟨_, rfl, _, _, _, [], _, [], hW', trodAll_mk1 (shut_bool Try.underlying4 _), (trodAll_cons_mk (Below.trod laidOut (by kernel_rfl) (of_decide_eq_true (by kernel_rfl)) k0 bel lt0) (trodAll_cons_mk (Below.trod laidOut (by kernel_rfl) (of_decide_eq_true (by kernel_rfl)) k1 bel lt1) trodAll_mk0)), rfl, bel.frame _, fun h => by cases h⟩

theorem over : Rows.postBackRow.holds Try.pinned (OpenSpec.ofChange Rows.postBackSpec) :=
  OpenClaim.holds_of_wide 3 Try.f3 rfl rfl rfl rfl rfl rfl rfl ⟨rfl, rfl, rfl, rfl, rfl⟩ rfl rfl rfl rfl rfl (by kernel_rfl) Try.func3 (by kernel_rfl)
    (of_decide_eq_true (by kernel_rfl)) (by unfold Func.isWrapper; first | (rw [if_pos (by decide +kernel)]; kernel_rfl) | (rw [if_neg (by decide +kernel)]; exact ⟨rfl, rfl⟩))
    (fun os started H enc _ => lifted os started H enc)

theorem proved : Rows.PostBackSaid := over
end Go.Proofs.Ytdekehhmjehicaa.lawBack
