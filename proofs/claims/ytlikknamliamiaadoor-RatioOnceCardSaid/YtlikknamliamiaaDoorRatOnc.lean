/-
  RatioOnce: the walk. The table of powers of ten reads as the program's text lays it.
-/
import Derived.Test.YtlikknamliamiaaDoorRatLives
import Derived.Test.YtlikknamliamiaaDoorRatP
namespace Go.Proofs.YtlikknamliamiaaDoor
set_option linter.unusedVariables false
open Go.RowKit
theorem tmod_small (a : Int) : (a.tmod 4503599627370496).natAbs ≤ 2^52 := by
  rw [Int.natAbs_tmod]
  exact Nat.le_of_lt (Nat.mod_lt _ (by decide))
theorem half_small (a : Int) (h : a.natAbs ≤ 2^52) : (rneI (a*HU)).natAbs ≤ 2^52 := by
  have := half_near a
  omega
set_option maxRecDepth 100000 in
set_option maxHeartbeats 2000000 in
theorem ratioOnce_walk (w : World) (a : Int) (hT : Tab w) : Calls Tryd.prog 5 #[.int .i64 a] w fun e w' => e = .returned (.bool true) ∧ Below w.heap.size w w' := by
  have c0 := Lib.hid (lives_ok w hT)
  have hs := tmod_small a
  generalize hb : a.tmod 4503599627370496 = b at hs
  have hh := half_small b hs
  have hby := once_by b
  have hq := quar_near b
  have hn := half_near b
  obtain ⟨z, hz, hzf, hzV⟩ := of_one b hs
  obtain ⟨f1, f2⟩ := ofI_fin b (by omega)
  have c1 := Lib.hid (fun W => ratTimes_ok W b 4607182418800017408)
  rw [show timesR b 4607182418800017408 = _ from t_one b hs] at c1
  have c2 := Lib.hid (fun W => ratTimes_ok W b 13830554455654793216)
  rw [show timesR b 13830554455654793216 = _ from t_mone b hs] at c2
  have c3 := Lib.hid (fun W => ratTimes_ok W b 0)
  rw [show timesR b 0 = _ from t_zero b hs] at c3
  have c4 := Lib.hid (fun W => ratTimes_ok W b 4602678819172646912)
  rw [show timesR b 4602678819172646912 = _ from t_half b hs] at c4
  have c5 := Lib.hid (fun W => ratTimes_ok W (rneI (b*HU)) 4602678819172646912)
  rw [show timesR (rneI (b*HU)) 4602678819172646912 = _ from t_half _ hh] at c5
  have c6 := Lib.hid (fun W => ratTimes_ok W b 4598175219545276416)
  rw [show timesR b 4598175219545276416 = _ from t_quar b hs] at c6
  have c7 := Lib.hid (fun W => ratOf_ok W b 1)
  have hquo : ∀ q, Quo (ofI b) (ofI 1) q → q = z := by
    intro q ⟨g, _⟩
    rw [hz] at g
    rcases g with g | ⟨g, _⟩
    · exact (Option.some.inj g).symm
    · cases g
  have o : FloatKind.f64.format.order z (floatOfInt .f64 b) = some .eq := by
    rw [ofI_eq]
    rw [show FloatKind.f64.format.order z (ofI b) = _ from order_num z (ofI b) (not_nan_of_fin hzf) (not_nan_of_fin f1), hzV, f2, Int.compare_eq_eq.2 rfl]
  generalize hQ : rneI (b*QU) = q at *
  generalize hP : rneI (rneI (b*HU)*HU) = p at *
  generalize hH : rneI (b*HU) = h at *
  replace hz := Lib.hid hz
  replace hzf := Lib.hid hzf
  replace hzV := Lib.hid hzV
  replace f1 := Lib.hid f1
  replace f2 := Lib.hid f2
  replace hquo := Lib.hid hquo
  replace hT := Lib.hid hT
  replace hP := Lib.hid hP
  replace hQ := Lib.hid hQ
  replace hH := Lib.hid hH
  go_enter Tryd.func5, Tryd.ntmps5
  go_wp2_with fail
  refine c0.out.mono ?_
  rintro e w0 ⟨rfl, hm⟩
  dsimp only
  have m0 := Lib.hid hm
  clear hm
  go_wp2_with fail
  refine (c1.out _).mono ?_
  rintro e w1 ⟨rfl, hm⟩
  dsimp only [errR]
  have m1 := Lib.hid (m0.out.then hm (fun _ _ h => h))
  clear hm m0
  go_wp2_with fail
  refine (c2.out _).mono ?_
  rintro e w2 ⟨rfl, hm⟩
  dsimp only [errR]
  have m2 := Lib.hid (m1.out.then hm (fun _ _ h => h))
  clear hm m1
  go_wp2_with fail
  refine (c3.out _).mono ?_
  rintro e w3 ⟨rfl, hm⟩
  dsimp only [errR]
  have m3 := Lib.hid (m2.out.then hm (fun _ _ h => h))
  clear hm m2
  go_wp2_with fail
  refine (c4.out _).mono ?_
  rintro e w4 ⟨rfl, hm⟩
  dsimp only [errR]
  have m4 := Lib.hid (m3.out.then hm (fun _ _ h => h))
  clear hm m3
  go_wp2_with fail
  refine (c5.out _).mono ?_
  rintro e w5 ⟨rfl, hm⟩
  dsimp only [errR]
  have m5 := Lib.hid (m4.out.then hm (fun _ _ h => h))
  clear hm m4
  go_wp2_with fail
  refine (c6.out _).mono ?_
  rintro e w6 ⟨rfl, hm⟩
  dsimp only [errR]
  have m6 := Lib.hid (m5.out.then hm (fun _ _ h => h))
  clear hm m5
  go_wp2_with fail
  refine (c7.out _).mono ?_
  rintro e w7 ⟨y, hy, rfl, hm⟩
  obtain rfl := hquo.out y hy
  dsimp only
  have m7 := Lib.hid (m6.out.then hm (fun _ _ h => h))
  clear hm m6
  go_wp2_with fail
  go_ret
  exact ⟨rfl, m7.out.below0⟩
end Go.Proofs.YtlikknamliamiaaDoor
