/-
  RatioTimes, RatioNear: the walks. The table of powers of ten reads as the program's text lays it.
-/
import Derived.Test.YtlikknamliamiaaDoorRatLives
namespace Go.Proofs.YtlikknamliamiaaDoor
set_option linter.unusedVariables false
open Go.RowKit
theorem quo_same {x y b c : Nat} (hb : Quo x y b) (hc : floatBits .quo .f64 x y = some c ∨ (floatBits .quo .f64 x y = none ∧ Nan c)) : b = c ∨ (Nan b ∧ Nan c) := by
  obtain ⟨h, _⟩ := hb
  rcases hc with h2 | ⟨h2, h3⟩
  · rw [show D.div x y = some c from h2] at h
    rcases h with h | ⟨h, _⟩
    · exact .inl (Option.some.inj h).symm
    · cases h
  · rw [show D.div x y = none from h2] at h
    rcases h with h | ⟨_, h⟩
    · cases h
    · exact .inr ⟨h, h3⟩
set_option maxRecDepth 100000 in
set_option maxHeartbeats 2000000 in
theorem ratioTimes_walk (w : World) (a b : Int) (x : Nat) (hT : Tab w) : Calls Tryd.prog 3 #[.int .i64 a, .int .i64 b, .float .f64 x] w fun e w' => e = .returned (.bool true) ∧ Below w.heap.size w w' := by
  have c0 := Lib.hid (lives_ok w hT)
  have c1 := Lib.hid (fun W => ratTimes_ok W a x)
  have c2 := Lib.hid (fun W => rratTimes_ok W a x)
  have c3 := Lib.hid (fun W => ratOf_ok W a b)
  have c4 := Lib.hid (fun (W : World) (h : Tab W) => show_ok W x (fun _ _ _ => h))
  have c5 := Lib.hid (fun W => rshow_ok W x)
  have c6 := Lib.hid (fun (W : World) (p q : Nat) h => same_ok W p q h)
  have hT := Lib.hid hT
  generalize showT x = tt at c4 c5
  have main : ∀ (m n : Int), (∀ W, Calls Tryd.prog 10 #[.int .i64 a, .float .f64 x] W fun e w' => e = .returned (.tuple #[.int .i64 m, .int .i64 n]) ∧ Mod none_ W w') →
     (∀ W, Calls Tryd.prog 11 #[.int .i64 a, .float .f64 x] W fun e w' => e = .returned (.tuple #[.int .i64 m, .int .i64 n]) ∧ Mod none_ W w') →
     Calls Tryd.prog 3 #[.int .i64 a, .int .i64 b, .float .f64 x] w fun e w' => e = .returned (.bool true) ∧ Below w.heap.size w w' := by
    intro m n c1 c2
    replace c1 := Lib.hid c1
    replace c2 := Lib.hid c2
    go_enter Tryd.func3, Tryd.ntmps3
    go_wp2_with fail
    refine c0.out.mono ?_
    rintro e w0 ⟨rfl, hm⟩
    dsimp only
    have m0 := Lib.hid hm
    clear hm
    go_wp2_with fail
    refine (c1.out _).mono ?_
    rintro e w1 ⟨rfl, hm⟩
    dsimp only
    have m1 := Lib.hid (m0.out.then hm (fun _ _ h => h))
    clear hm m0
    go_wp2_with fail
    refine (c2.out _).mono ?_
    rintro e w2 ⟨rfl, hm⟩
    dsimp only
    have m2 := Lib.hid (m1.out.then hm (fun _ _ h => h))
    clear hm m1
    go_wp2_with fail
    refine (c3.out _).mono ?_
    rintro e w3 ⟨q, hq, rfl, hm⟩
    dsimp only
    have m3 := Lib.hid (m2.out.then hm (fun _ _ h => h))
    clear hm m2
    obtain ⟨z, k, hz, _, hrun⟩ := run_arith .quo (.inr (.inr (.inr rfl))) (floatOfInt .f64 a) (floatOfInt .f64 b) w3
    have hs := Lib.hid (quo_same hq hz)
    replace hq := Lib.hid hq
    replace hz := Lib.hid hz
    go_wp2_with fail
    refine (c6.out _ _ _ hs.out).mono ?_
    rintro e w4 ⟨rfl, rfl⟩
    dsimp only
    have m4 := Lib.hid (m3.out.drewN k)
    clear m3
    go_wp2_with fail
    refine (c4.out _ (hT.out.mod m4.out)).mono ?_
    rintro e w4 ⟨rfl, hm⟩
    dsimp only
    have m5 := Lib.hid (m4.out.then hm (fun _ _ h => h))
    clear hm m4
    go_wp2_with fail
    refine (c5.out _).mono ?_
    rintro e w5 ⟨rfl, hm⟩
    dsimp only
    have m6 := Lib.hid (m5.out.then hm (fun _ _ h => h))
    clear hm m5
    go_wp2_with fail
    go_ret
    exact ⟨rfl, m6.out.below0⟩
  cases h : timesR a x with
  | none =>
    rw [h] at c1 c2
    exact main 0 13 c1.out c2.out
  | some n =>
    rw [h] at c1 c2
    exact main n 0 c1.out c2.out
set_option maxRecDepth 100000 in
set_option maxHeartbeats 2000000 in
theorem ratioNear_walk (w : World) (a b part : Nat) (ha : a < 2^64) (hb : b < 2^64) (hT : Tab w) : Calls Tryd.prog 4 #[.float .f64 a, .float .f64 b, .float .f64 part] w fun e w' => e = .returned (.bool true) ∧ Below w.heap.size w w' := by
  have c0 := Lib.hid (lives_ok w hT)
  have c1 := Lib.hid (fun W => near_ok W a b part ha hb)
  have c2 := Lib.hid (fun W => rnear_ok W a b part ha hb)
  have c3 := Lib.hid (fun W => near_ok W b a part hb ha)
  rw [near_comm b a] at c3
  have c4 := Lib.hid (fun W => near_ok W a a 0 ha ha)
  rw [near_self] at c4
  have c5 := Lib.hid (fun W => near_ok W a b 0 ha hb)
  have hz := near_zero a b
  generalize nearV a b part = n1 at *
  generalize nearV a b 0 = n2 at *
  replace ha := Lib.hid ha
  replace hb := Lib.hid hb
  replace hT := Lib.hid hT
  go_enter Tryd.func4, Tryd.ntmps4
  go_wp2_with fail
  refine c0.out.mono ?_
  rintro e w0 ⟨rfl, hm⟩
  dsimp only
  have m0 := Lib.hid hm
  clear hm
  go_wp2_with fail
  refine (c1.out _).mono ?_
  rintro e w1 ⟨rfl, hm⟩
  dsimp only
  have m1 := Lib.hid (m0.out.then hm (fun _ _ h => h))
  clear hm m0
  go_wp2_with fail
  refine (c2.out _).mono ?_
  rintro e w2 ⟨rfl, hm⟩
  dsimp only
  have m2 := Lib.hid (m1.out.then hm (fun _ _ h => h))
  clear hm m1
  go_wp2_with fail
  refine (c1.out _).mono ?_
  rintro e w3 ⟨rfl, hm⟩
  dsimp only
  have m3 := Lib.hid (m2.out.then hm (fun _ _ h => h))
  clear hm m2
  go_wp2_with fail
  refine (c3.out _).mono ?_
  rintro e w4 ⟨rfl, hm⟩
  dsimp only
  have m4 := Lib.hid (m3.out.then hm (fun _ _ h => h))
  clear hm m3
  go_wp2_with fail
  refine (c4.out _).mono ?_
  rintro e w5 ⟨rfl, hm⟩
  dsimp only
  have m5 := Lib.hid (m4.out.then hm (fun _ _ h => h))
  clear hm m4
  go_wp2_with fail
  refine (c5.out _).mono ?_
  rintro e w6 ⟨rfl, hm⟩
  dsimp only
  have m6 := Lib.hid (m5.out.then hm (fun _ _ h => h))
  clear hm m5
  cases n2 with
  | false =>
    go_wp2_with fail
    go_ret
    exact ⟨rfl, m6.out.below0⟩
  | true =>
    have o : (FloatKind.f64.format.order a b == some .eq) = true := hz
    go_wp2_with fail
    go_ret
    exact ⟨rfl, m6.out.below0⟩
end Go.Proofs.YtlikknamliamiaaDoor
