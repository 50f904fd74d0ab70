/-
  What every law of chapter 19 begins with.
-/
import Derived.Test.YtlikknamliamiaaDoorRat7
namespace Go.Proofs.YtlikknamliamiaaDoor
set_option linter.unusedVariables false
open Go.RowKit
set_option maxRecDepth 100000
theorem live1 : timesR 5 4602678819172646912 = some 2 := by decide +kernel
theorem live2 : timesR 7 4602678819172646912 = some 4 := by decide +kernel
theorem live3 : D.div (ofI 1) (ofI 4) = some 4598175219545276416 := by decide +kernel
theorem live4 : showR 4607184670599831093 = some 1000 := by decide +kernel
theorem live_quo {b : Nat} (h : Quo (ofI 1) (ofI 4) b) : b = 4598175219545276416 := by
  obtain ⟨h, _⟩ := h
  rw [live3] at h
  rcases h with h | ⟨h, _⟩
  · exact (Option.some.inj h).symm
  · cases h
theorem quar_self : FloatKind.f64.format.order 4598175219545276416 4598175219545276416 = some .eq := order_self _ (by unfold Nan infR; decide)
set_option maxHeartbeats 2000000 in
theorem lives_ok (w : World) (hT : Tab w) : Calls Tryd.prog 9 #[] w (BoolPost true w) := by
  have c1 := Lib.hid (fun W => ratTimes_ok W 5 4602678819172646912)
  rw [live1] at c1
  have c2 := Lib.hid (fun W => ratTimes_ok W 7 4602678819172646912)
  rw [live2] at c2
  have c3 := Lib.hid (fun (W : World) (h : Tab W) => show_ok W 4607184670599831093 (fun _ _ _ => h))
  have c4 := Lib.hid (fun W => rshow_ok W 4607184670599831093)
  have c5 := Lib.hid (fun W => ratOf_ok W 1 4)
  have c6 := Lib.hid (fun W => near_ok W 4607182418800017408 4607182418800017408 0 (by decide) (by decide))
  rw [near_self, order_self _ (by unfold Nan infR; decide)] at c6
  have o := quar_self
  have hT := Lib.hid hT
  generalize showT 4607184670599831093 = tt at c3 c4
  go_enter Tryd.func9, Tryd.ntmps9
  go_wp2_with fail
  refine (c1.out _).mono ?_
  rintro e w1 ⟨rfl, hm⟩
  dsimp only [errR]
  have m1 := Lib.hid hm
  clear hm
  go_wp2_with fail
  refine (c2.out _).mono ?_
  rintro e w2 ⟨rfl, hm⟩
  dsimp only [errR]
  have m2 := Lib.hid (m1.out.then hm (fun _ _ h => h))
  clear hm m1
  go_wp2_with fail
  refine (c3.out _ (hT.out.mod m2.out)).mono ?_
  rintro e w3 ⟨rfl, hm⟩
  dsimp only
  have m3 := Lib.hid (m2.out.then hm (fun _ _ h => h))
  clear hm m2
  go_wp2_with fail
  refine (c4.out _).mono ?_
  rintro e w4 ⟨rfl, hm⟩
  dsimp only
  have m4 := Lib.hid (m3.out.then hm (fun _ _ h => h))
  clear hm m3
  go_wp2_with fail
  refine (c5.out _).mono ?_
  rintro e w5 ⟨b, hb, rfl, hm⟩
  obtain rfl := live_quo hb
  dsimp only
  have m5 := Lib.hid (m4.out.then hm (fun _ _ h => h))
  clear hm m4 hb
  go_wp2_with fail
  refine (c6.out _).mono ?_
  rintro e w6 ⟨rfl, hm⟩
  dsimp only
  have m6 := Lib.hid (m5.out.then hm (fun _ _ h => h))
  clear hm m5
  go_wp2_with fail
  go_ret
  exact ⟨rfl, m6.out⟩
end Go.Proofs.YtlikknamliamiaaDoor
