/-
  RatioMean: for every input the law returns true, and each argument reads as it did; the row's listed variables read as the program's text lays them (the card ties them).
-/
import Derived.Test.YtlikknamliamiaaDoorRatMnW
import Derived.Test.YtlikknamliamiaaDoorOpen
import Derived.Test.YtlikknamliamiaaDoorGwR
import Derived.Test.YtlikknamliamiaaDoorTie
import Derived.Test.YtlikknamliamiaaDoorCards
import Derived.ShutString
import Derived.Lay
import Derived.SevenTiedAt
namespace Go.Proofs.YtlikknamliamiaaDoor.lawMean
open Go.ChangeShapes Go.WideShapes Go.ChangeAt Go.RowKit Go.Deep
open Go.ChangeMaps (open_string shut_string)
set_option linter.unusedVariables false
set_option maxRecDepth 100000 in
theorem lifted (os : Os) (started : os.Started) (H : Type) (enc : TypeId × Value → H) :
    ReturnsInHanded {} Tryd.checked os 7 .any (fun w args => (Rows.ratioMeanSpec.pre enc Tryd.prog Tryd.f7 [] false w args ∧ laidMetH Tryd.prog laidL w) ∧ sizedMet enc Tryd.prog Tryd.f7 (OpenSpec.ofChange Rows.ratioMeanSpec) false w args)
      (Rows.ratioMeanSpec.post enc Tryd.prog Tryd.f7 false true false false) := by
  refine ret_and_shaped (C := Tryd.checked) (X := fun w _ => laidMetH Tryd.prog laidL w) (fun _ _ _ hh h => h.of_heap hh) own started (by kernel_rfl) Tryd.func7
    (ChangeSpec.witness_shaped (enc := enc) (C := Tryd.checked) (os := os) (X := fun w _ => laidMetH Tryd.prog laidL w) false (World.laidAll Tryd.prog os laidL) #[.slice none 0 0, .slice none 0 0] 8 (World.laidAll_os _ _ _)
      (World.shaped_of_ZipB (by kernel_rfl) (by kernel_rfl)) (by kernel_rfl) (by kernel_rfl) (by kernel_rfl)
      (by rw [MakeChecks.laidMetH_plain _ _ _ (by kernel_rfl)]; exact laidMet_laidAll _ (by kernel_rfl) (by kernel_rfl))) ?_
  intro W base args ds gs before hval0 hW hcnd hwt hL hsh
  have hG := gw_of hsh hL
  have hval : ∀ (j : Nat) t v, Tryd.f7.params[j]? = some t → args[j]? = some v → Value.okWide Tryd.prog W .any base t v := hval0
  have hW' := hW
  obtain ⟨p, q, hA0, hV, rfl, hfz, hnd⟩ := hW
  have hA : DataW.TrodAll enc Tryd.prog W 0 (fun _ => true) true Tryd.f7.params.toList args.toList ds p := hA0
  have hsz := hwt
  rw [Tryd.params7] at hA hval hsz
  have laidOut : laidOutB Tryd.prog = true := by kernel_rfl
  obtain ⟨v0, vs0, d0, ds0, p0, q0, hargs, rfl, rfl, h0, r0⟩ := trodAll_cons hA
  obtain ⟨v1, vs1, d1, ds1, p1, q1, rfl, rfl, rfl, h1, r1⟩ := trodAll_cons r0
  obtain ⟨rfl, rfl, rfl⟩ := trodAll_nil r1
  obtain rfl : args = #[v0, v1] := by cases args; simp_all
  obtain ⟨rfl, rfl⟩ := trodVars_none hV
  have k0 := h0
  have lt0 : ∀ x ∈ p0, x.block < W.heap.size := by obtain ⟨m, hm⟩ := k0; exact DataW.trod_lt m _ _ _ hm
  have w0 : Wd Tryd.prog 35 d0 := wd_arg hwt (j := 0) rfl rfl
  have k1 := h1
  have lt1 : ∀ x ∈ p1, x.block < W.heap.size := by obtain ⟨m, hm⟩ := k1; exact DataW.trod_lt m _ _ _ hm
  have w1 : Wd Tryd.prog 36 d1 := wd_arg hwt (j := 1) rfl rfl
  obtain ⟨fuel0, f0⟩ := h0
  obtain ⟨A0, n0, c0, l0, hcs0, cm0, wfs0⟩ := open_nums Tryd.underlying35 Tryd.underlying2 (by kernel_rfl) f0 w0
  rw [show Tryd.prog.bytesOf 2 = 8 by kernel_rfl] at cm0
  obtain ⟨a_, n_, c_, rfl⟩ := okWide_slice Tryd.underlying35 (hval 0 35 v0 rfl rfl)
  simp only [Value.cells, List.cons.injEq, and_true] at hcs0
  obtain ⟨rfl, rfl, rfl⟩ : A0 = a_ ∧ n0 = n_ ∧ c0 = c_ := by injection hcs0 with x1 x2 x3; exact ⟨x1.symm, x2.symm, x3.symm⟩
  obtain ⟨fuel1, f1⟩ := h1
  obtain ⟨A1, n1, c1, l1, hcs1, cm1, wfs1⟩ := open_nums Tryd.underlying36 Tryd.underlying3 (by kernel_rfl) f1 w1
  rw [show Tryd.prog.bytesOf 3 = 8 by kernel_rfl] at cm1
  obtain ⟨a_, n_, c_, rfl⟩ := okWide_slice Tryd.underlying36 (hval 1 36 v1 rfl rfl)
  simp only [Value.cells, List.cons.injEq, and_true] at hcs1
  obtain ⟨rfl, rfl, rfl⟩ : A1 = a_ ∧ n1 = n_ ∧ c1 = c_ := by injection hcs1 with x1 x2 x3; exact ⟨x1.symm, x2.symm, x3.symm⟩
  clear hA0 hval0
  refine (ratioMean_walk W A0 A1 n0 c0 n1 c1 l0 l1 cm0.1 cm0.2.1 cm1.1 hG).mono fun e W' ⟨he, bel⟩ => ?_
  subst he
  exact ⟨_, rfl, _, _, _, [], _, [], hW', trodAll_mk1 (shut_bool Tryd.underlying4 _), (trodAll_cons_mk (Below.trod laidOut (by kernel_rfl) (of_decide_eq_true (by kernel_rfl)) k0 bel lt0) (trodAll_cons_mk (Below.trod laidOut (by kernel_rfl) (of_decide_eq_true (by kernel_rfl)) k1 bel lt1) trodAll_mk0)), rfl, bel.frame _, fun h => by cases h⟩

theorem over : Rows.RatioMeanSaid :=
  OpenClaim.holds_of_wide 7 Tryd.f7 rfl rfl rfl rfl rfl rfl rfl ⟨rfl, rfl, rfl, rfl, rfl⟩ rfl rfl rfl rfl rfl (by kernel_rfl) Tryd.func7 (by kernel_rfl)
    (of_decide_eq_true (by kernel_rfl)) (by unfold Func.isWrapper; first | (rw [if_pos (by decide +kernel)]; kernel_rfl) | (rw [if_neg (by decide +kernel)]; exact ⟨rfl, rfl⟩))
    (fun os started H enc _ => lifted os started H enc)

theorem proved : Rows.RatioMeanCardSaid :=
  Claim7.holds_tied_plain_at .later [] [.data, .data, .data] true (true, "f478f7247628e6043797fab186bea7a7b06fcf06c7ddf58dfff38eb28ddba757") false
    over (fun _ h => by cases h) (by kernel_rfl) (fun _ h => by cases h) ratioMean_row_tie rfl ⟨rfl, rfl⟩ (by kernel_rfl) rfl
    (fun f fn hf hfn => by
      obtain rfl : f = 7 := Option.some.inj ((show Tryd.prog.funcNamed "countinghouse/countinghouselaw19.RatioMean" = some 7 by kernel_rfl).symm.trans hf) |>.symm
      obtain rfl : fn = Tryd.f7 := (Option.some.inj (Tryd.func7.symm.trans hfn)).symm
      exact ⟨by kernel_rfl, fun j t ht => by
        rw [Tryd.params7] at ht
        have hm : t ∈ [35, 36] := by simpa using Array.mem_of_getElem? ht
        have hall : ([35, 36].all fun u => !Tryd.prog.wantsStandIn u) = true := by kernel_rfl
        exact (show Tryd.prog.wantsStandIn t = false by simpa using List.all_eq_true.1 hall t hm)⟩)
    (by kernel_rfl)
end Go.Proofs.YtlikknamliamiaaDoor.lawMean
