/-
  ReplicaUnion: for every input the law returns true, and each argument reads as it did. No condition.
-/
import Derived.Test.YtfkfiokkjjnhiaaGreatUp43
import Derived.Test.YtfkfiokkjjnhiaaGreatUp44
import Derived.ShutString
set_option linter.unusedVariables false
set_option linter.unusedSimpArgs false
set_option maxHeartbeats 16000000
namespace Go.Proofs.YtfkfiokkjjnhiaaGreat.lawUnion
open Go.ChangeShapes Go.WideShapes Go.ChangeAt Go.RowKit Go.Deep
open Go.ChangeMaps (open_string shut_string)
set_option maxRecDepth 100000
theorem lifted (os : Os) (started : os.Started) (H : Type) (enc : TypeId × Value → H) :
  ReturnsInHanded {} Tryz.checked os 3 .any (Rows.replicaUnionSpec.pre6 enc Tryz.prog Tryz.f3 Rows.replicaUnionRow.domain false) (Rows.replicaUnionSpec.post enc Tryz.prog Tryz.f3 false true false false) := by
 refine returnsInHanded_of_change_sized (C := Tryz.checked) (by kernel_rfl) started (by kernel_rfl) Tryz.func3
  (ChangeSpec.witness6 (enc := enc) (C := Tryz.checked) false ⟨#[], #[.slice none 0 0, .slice none 0 0], []⟩ 8 (by kernel_rfl) (by kernel_rfl) (by kernel_rfl) (by kernel_rfl)) ?_
 intro W base args ds gs before hval0 hW hcnd hsz _
 have hval : ∀ (j : Nat) t v, Tryz.f3.params[j]? = some t → args[j]? = some v → Value.okWide Tryz.prog W .any base t v := hval0
 have hW' := hW
 obtain ⟨p, q, hA0, hV, rfl, hfz, hnd⟩ := hW
 have hA : DataW.TrodAll enc Tryz.prog W 0 (fun _ => true) true Tryz.f3.params.toList args.toList ds p := hA0
 rw [Tryz.params3] at hA hval
 have laidOut : laidOutB Tryz.prog = true := by kernel_rfl
 obtain ⟨v0, vs0, d0, ds0, p0, q0, hargs, rfl, rfl, h0, r0⟩ := trodAll_cons hA
 obtain ⟨v1, vs1, d1, ds1, p1, q1, rfl, rfl, rfl, h1, r1⟩ := trodAll_cons r0
 obtain ⟨rfl, rfl, rfl⟩ := trodAll_nil r1
 obtain rfl : args = #[v0, v1] := by cases args; simp_all
 obtain ⟨rfl, rfl⟩ := trodVars_none hV
 have k0 := h0
 have lt0 : ∀ x ∈ p0, x.block < W.heap.size := by obtain ⟨m, hm⟩ := k0; exact DataW.trod_lt m _ _ _ hm
 have w0 : Wd Tryz.prog 22 d0 := wd_arg hsz (j := 0) rfl rfl
 have k1 := h1
 have lt1 : ∀ x ∈ p1, x.block < W.heap.size := by obtain ⟨m, hm⟩ := k1; exact DataW.trod_lt m _ _ _ hm
 have w1 : Wd Tryz.prog 22 d1 := wd_arg hsz (j := 1) rfl rfl
 obtain ⟨fuel0, f0⟩ := h0
 obtain ⟨A0, n0, c0, os0, hcs0, rd0, nc0, nb0, ok0⟩ := open_insts f0 w0
 obtain ⟨a_, n_, c_, rfl⟩ := okWide_slice Tryz.underlying22 (hval 0 22 v0 rfl rfl)
 simp only [Value.cells, List.cons.injEq, and_true] at hcs0
 obtain ⟨rfl, rfl, rfl⟩ : A0 = a_ ∧ n0 = n_ ∧ c0 = c_ := by injection hcs0 with x1 x2 x3; exact ⟨x1.symm, x2.symm, x3.symm⟩
 obtain ⟨fuel1, f1⟩ := h1
 obtain ⟨A1, n1, c1, os1, hcs1, rd1, nc1, nb1, ok1⟩ := open_insts f1 w1
 obtain ⟨a_, n_, c_, rfl⟩ := okWide_slice Tryz.underlying22 (hval 1 22 v1 rfl rfl)
 simp only [Value.cells, List.cons.injEq, and_true] at hcs1
 obtain ⟨rfl, rfl, rfl⟩ : A1 = a_ ∧ n1 = n_ ∧ c1 = c_ := by injection hcs1 with x1 x2 x3; exact ⟨x1.symm, x2.symm, x3.symm⟩
 clear hA0 hval0
 refine (((union_walk W A0 A1 n0 n1 c0 c1 os0 os1 rd0 rd1 nc0 nc1 nb0 nb1).mono (fun e w' h => (⟨h.1, h.2.below0⟩ : _ ∧ _)))).mono fun e W' ⟨he, bel⟩ => ?_
 subst he
 exact ⟨_, rfl, _, _, _, [], _, [], hW', trodAll_mk1 (shut_bool Tryz.underlying4 _), (trodAll_cons_mk (Below.trod laidOut (by kernel_rfl) (of_decide_eq_true (by kernel_rfl)) k0 bel lt0) (trodAll_cons_mk (Below.trod laidOut (by kernel_rfl) (of_decide_eq_true (by kernel_rfl)) k1 bel lt1) trodAll_mk0)), rfl, bel.frame _, fun h => by cases h⟩
theorem over : Rows.replicaUnionRow.holds Tryz.pinned (OpenSpec.ofChange Rows.replicaUnionSpec) :=
 OpenClaim.holds_of_wide 3 Tryz.f3 rfl rfl rfl rfl rfl rfl rfl ⟨rfl, rfl, rfl, rfl, rfl⟩ rfl rfl rfl rfl rfl named Tryz.func3 facts inst wrap
  (fun os started H enc _ => lifted os started H enc)
theorem proved : Rows.ReplicaUnionSaid := over
end Go.Proofs.YtfkfiokkjjnhiaaGreat.lawUnion
