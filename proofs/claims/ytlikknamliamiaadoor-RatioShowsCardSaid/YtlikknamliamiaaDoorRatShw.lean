/-
  RatioShows: the walk. The table of powers of ten reads as the program's text lays it.
-/
import Derived.Test.YtlikknamliamiaaDoorRatLives
import Derived.Test.YtlikknamliamiaaDoorRatShP
namespace Go.Proofs.YtlikknamliamiaaDoor
set_option linter.unusedVariables false
open Go.RowKit
theorem tmod_small40 (a : Int) : (a.tmod 1099511627776).natAbs < 2^40 := by
  rw [Int.natAbs_tmod]
  exact Nat.mod_lt _ (by decide)
theorem len5 {t : List UInt8} (h : 5 ≤ t.length) : ¬ t = [110, 97, 110] ∧ ¬ t = [105, 110, 102] ∧ ¬ t = [45, 105, 110, 102] ∧ ¬ t = [102, 97, 114] := by
  refine ⟨?_, ?_, ?_, ?_⟩ <;> (rintro rfl; simp at h)
/-- what is shown, how the number and its difference with itself stand to themselves -/
def Case (x y : Nat) (t : List UInt8) : Prop :=
  (t = [110, 97, 110] ∧ FloatKind.f64.format.order x x = none ∧ FloatKind.f64.format.order y y = none) ∨
  (t = [105, 110, 102] ∧ FloatKind.f64.format.order x x = some .eq ∧ FloatKind.f64.format.order y y = none) ∨
  (t = [45, 105, 110, 102] ∧ FloatKind.f64.format.order x x = some .eq ∧ FloatKind.f64.format.order y y = none) ∨
  (t = [102, 97, 114] ∧ FloatKind.f64.format.order x x = some .eq ∧ FloatKind.f64.format.order y y = some .eq) ∨
  (5 ≤ t.length ∧ FloatKind.f64.format.order x x = some .eq ∧ FloatKind.f64.format.order y y = some .eq)
theorem sub_self_fin (x : Nat) (h : Fin' x) : ∃ y, D.sub x x = some y ∧ Fin' y := by
  obtain ⟨y, h1, h2⟩ := sub_fin x x h h
  rw [Int.sub_self] at h2
  obtain ⟨h3, _, _⟩ := h2.at (r := 0) Nat.one_pos (by simp [rmag]) (by unfold infR; omega)
  exact ⟨y, h1, h3⟩
theorem sub_self_inf (x : Nat) (h : x % 2^63 = infR) : D.sub x x = none := by
  unfold Ieee.Format.sub
  rw [read_inf x h]
  cases sgn x <;> rfl
theorem sub_self_nan (x : Nat) (h : Nan x) : D.sub x x = none := by
  obtain ⟨s, t, e⟩ := read_nan x h
  unfold Ieee.Format.sub
  rw [e]; rfl
theorem case_of (x y : Nat) (hy : D.sub x x = some y ∨ (D.sub x x = none ∧ Nan y)) : Case x y (showT x) := by
  unfold Case
  by_cases hn : Nan x
  · rw [sub_self_nan x hn] at hy
    have hy : Nan y := by rcases hy with h | ⟨_, h⟩; cases h; exact h
    exact .inl ⟨by unfold showT; rw [nanB_yes hn]; rfl, order_nanl x x hn, order_nanl y y hy⟩
  · have ox := order_self x hn
    right
    by_cases hi : x % 2^63 = infR
    · rw [sub_self_inf x hi] at hy
      have hy : Nan y := by rcases hy with h | ⟨_, h⟩; cases h; exact h
      have oy : FloatKind.f64.format.order y y = none := order_nanl y y hy
      cases hs : sgn x
      · left
        exact ⟨by unfold showT; rw [nanB_no hn, show infB 1 x = true by unfold infB; simp [hi, hs]]; rfl, ox, oy⟩
      · right; left
        exact ⟨by unfold showT; rw [nanB_no hn, show infB 1 x = false by unfold infB; simp [hs], show infB (-1) x = true by unfold infB; simp [hi, hs]]; rfl, ox, oy⟩
    · have hf : Fin' x := by rcases tri x with h | h | h; exact h; exact absurd h hi; exact absurd h hn
      obtain ⟨z, z1, z2⟩ := sub_self_fin x hf
      rw [z1] at hy
      have e : z = y := by
        rcases hy with h | ⟨h, _⟩
        · exact Option.some.inj h
        · cases h
      subst e
      have oz := order_self z (not_nan_of_fin z2)
      right; right
      cases h : showR x with
      | none =>
        left
        refine ⟨?_, ox, oz⟩
        unfold showT
        rw [nanB_no hn, show infB 1 x = false by unfold infB; simp [hi], show infB (-1) x = false by unfold infB; simp [hi], h]; rfl
      | some m =>
        right
        refine ⟨?_, ox, oz⟩
        rw [showT_thou hf h]; exact txtC_len m
set_option maxRecDepth 100000 in
set_option maxHeartbeats 4000000 in
theorem ratioShows_walk (w : World) (a : Int) (x : Nat) (hT : Tab w) : Calls Tryd.prog 6 #[.int .i64 a, .float .f64 x] w fun e w' => e = .returned (.bool true) ∧ Below w.heap.size w w' := by
  have c0 := Lib.hid (lives_ok w hT)
  have hs := tmod_small40 a
  generalize hb : a.tmod 1099511627776 = b at hs
  obtain ⟨z, hz, hzf, hzV⟩ := show_thou b hs
  have hI : I64 b := by unfold I64; omega
  have c1 := Lib.hid (fun (W : World) (h : Tab W) => show_ok W z (fun _ _ _ => h))
  rw [showT_thou hzf hzV] at c1
  have c2 := Lib.hid (fun (W : World) (h : Tab W) => show_ok W x (fun _ _ _ => h))
  have c3 := Lib.hid (fun W => rtext_ok W b 3 hI)
  rw [show clampD 3 = 3 from rfl] at c3
  have hdiv := fun W ty => run_float_arith (P := Tryd.prog) W .quo ty .f64 (floatOfInt .f64 b) 4652007308841189376 z hz
  have hcase := fun y => case_of x y
  have hT := Lib.hid hT
  generalize txtC b 3 = tb at *
  generalize showT x = t at *
  replace hz := Lib.hid hz
  replace hzf := Lib.hid hzf
  replace hzV := Lib.hid hzV
  replace hI := Lib.hid hI
  replace hs := Lib.hid hs
  replace hcase := Lib.hid hcase
  go_enter Tryd.func6, Tryd.ntmps6
  go_wp2_with fail
  refine c0.out.mono ?_
  rintro e w0 ⟨rfl, hm⟩
  dsimp only
  have m0 := Lib.hid hm
  clear hm
  go_wp2_with fail
  refine (c1.out _ (hT.out.mod m0.out)).mono ?_
  rintro e w1 ⟨rfl, hm⟩
  dsimp only
  have m1 := Lib.hid (m0.out.then hm (fun _ _ h => h))
  clear hm m0
  go_wp2_with fail
  refine (c2.out _ (hT.out.mod m1.out)).mono ?_
  rintro e w2 ⟨rfl, hm⟩
  dsimp only
  have m2 := Lib.hid (m1.out.then hm (fun _ _ h => h))
  clear hm m1
  obtain ⟨y, k, hy, _, hrun⟩ := run_arith .sub (.inr (.inl rfl)) x x w2
  rcases hcase.out y hy with ⟨rfl, ox, oy⟩ | ⟨rfl, ox, oy⟩ | ⟨rfl, ox, oy⟩ | ⟨rfl, ox, oy⟩ | ⟨h5, ox, oy⟩
  rotate_right
  · obtain ⟨n1, n2, n3, n4⟩ := len5 h5
    replace hy := Lib.hid hy
    replace hcase := Lib.hid hcase
    go_wp2_with fail
    refine (c3.out _).mono ?_
    rintro e w3 ⟨rfl, hm⟩
    dsimp only
    have m3 := Lib.hid ((m2.out.drewN k).then hm (fun _ _ h => h))
    clear hm m2
    go_wp2_with fail
    go_ret
    refine ⟨?_, m3.out.below0⟩
    show Ending.returned (.bool (!(t == [110, 97, 110]) && decide (2 < ((txt t).size : Int)))) = _
    rw [beq_eq_false_iff_ne.2 n1, decide_eq_true (by rw [txt_size_]; omega)]; rfl
  all_goals
    replace hy := Lib.hid hy
    replace hcase := Lib.hid hcase
    go_wp2_with fail
    refine (c3.out _).mono ?_
    rintro e w3 ⟨rfl, hm⟩
    dsimp only
    have m3 := Lib.hid ((m2.out.drewN k).then hm (fun _ _ h => h))
    clear hm m2
    go_wp2_with fail
    go_ret
    exact ⟨rfl, m3.out.below0⟩
end Go.Proofs.YtlikknamliamiaaDoor
