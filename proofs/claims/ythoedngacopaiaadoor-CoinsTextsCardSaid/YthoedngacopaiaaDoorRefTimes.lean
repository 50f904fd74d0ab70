/-
  The reference of chapter 1: Times. No condition.
-/
import Derived.Test.YthoedngacopaiaaDoorRefTot
namespace Go.Proofs.YthoedngacopaiaaDoor
set_option linter.unusedVariables false
open Go.RowKit
/-- What holds of the sum so far x, the multiple y, and what is left r. -/
def RmOk (a : Int) (m : Nat) (x y : Int) (r : Nat) : Prop := x + y * (r : Int) = a * (m : Int) ∧ (0 ≤ a → 0 ≤ x ∧ 0 ≤ y) ∧ (a < 0 → x ≤ 0 ∧ y ≤ 0) ∧ r ≤ 9223372036854775808
theorem am_bd {a : Int} {m : Nat} (ha : I64 a) (hm : m ≤ 9223372036854775808) : (0 ≤ a → 0 ≤ a * (m : Int) ∧ a * (m : Int) ≤ 85070591730234615856620279821087277056) ∧ (a < 0 → -85070591730234615865843651857942052864 ≤ a * (m : Int) ∧ a * (m : Int) ≤ 0) := by
  obtain ⟨a1, a2⟩ := ha
  constructor
  · intro h
    have h1 := Int.mul_nonneg h (show (0 : Int) ≤ (m : Int) by omega)
    have h2 := Int.mul_le_mul a2 (show (m : Int) ≤ 9223372036854775808 by omega) (by omega) (by omega)
    exact ⟨h1, by omega⟩
  · intro h
    have h1 := Int.mul_nonneg (show (0 : Int) ≤ -a by omega) (show (0 : Int) ≤ (m : Int) by omega)
    have h2 := Int.mul_le_mul (show -a ≤ 9223372036854775808 by omega) (show (m : Int) ≤ 9223372036854775808 by omega) (by omega) (by omega)
    rw [Int.neg_mul] at h1 h2
    omega
theorem RmOk.bd {a : Int} {m : Nat} {x y : Int} {r : Nat} (h : RmOk a m x y r) (ha : I64 a) (hm : m ≤ 9223372036854775808) :
    (-85070591730234615865843651857942052864 ≤ x ∧ x ≤ 85070591730234615856620279821087277056) ∧ (0 < r → -85070591730234615865843651857942052864 ≤ y ∧ y ≤ 85070591730234615856620279821087277056) ∧ (0 < r → (0 ≤ x ∧ 0 ≤ y ∨ x ≤ 0 ∧ y ≤ 0)) := by
  obtain ⟨h1, h2, h3, _⟩ := h
  obtain ⟨b1, b2⟩ := am_bd ha hm
  by_cases h0 : 0 ≤ a
  · have c := b1 h0
    have d := h2 h0
    have e := Int.mul_nonneg d.2 (show (0 : Int) ≤ (r : Int) by omega)
    refine ⟨by omega, fun hr => ?_, fun _ => .inl d⟩
    have f := Int.mul_le_mul_of_nonneg_left (show (1 : Int) ≤ (r : Int) by omega) d.2
    rw [Int.mul_one] at f
    omega
  · have c := b2 (by omega)
    have d := h3 (by omega)
    have e := Int.mul_nonneg (show (0 : Int) ≤ -y by omega) (show (0 : Int) ≤ (r : Int) by omega)
    rw [Int.neg_mul] at e
    refine ⟨by omega, fun hr => ?_, fun _ => .inr d⟩
    have f := Int.mul_le_mul_of_nonneg_left (show (1 : Int) ≤ (r : Int) by omega) (show (0 : Int) ≤ -y by omega)
    rw [Int.mul_one, Int.neg_mul] at f
    omega
theorem RmOk.even {a : Int} {m : Nat} {x y : Int} {r : Nat} (h : RmOk a m x y r) (he : r % 2 = 0) : RmOk a m x (y + y) (r / 2) := by
  obtain ⟨h1, h2, h3, h4⟩ := h
  refine ⟨?_, fun h0 => ?_, fun h0 => ?_, by omega⟩
  · rw [← h1, ← Int.two_mul, Int.mul_comm 2 y, Int.mul_assoc, show (2 : Int) * ((r / 2 : Nat) : Int) = (r : Int) by omega]
  · have := h2 h0; omega
  · have := h3 h0; omega
theorem RmOk.odd {a : Int} {m : Nat} {x y : Int} {r : Nat} (h : RmOk a m x y r) (he : r % 2 = 1) : RmOk a m (x + y) (y + y) (r / 2) := by
  obtain ⟨h1, h2, h3, h4⟩ := h
  refine ⟨?_, fun h0 => ?_, fun h0 => ?_, by omega⟩
  · have e : (r : Int) = 2 * ((r / 2 : Nat) : Int) + 1 := by omega
    rw [← h1, e, Int.mul_add, Int.mul_one, ← Int.two_mul, Int.mul_comm 2 y, Int.mul_assoc]; omega
  · have := h2 h0; omega
  · have := h3 h0; omega
/-- A wide number in block g. -/
def WdAt (w : World) (g : Nat) (x : Int) : Prop := ∃ (h : Int) (l : Nat), x = h * 18446744073709551616 + (l : Int) ∧ l < 18446744073709551616 ∧ Blk w g 54 #[.int .i64 h, .int .u64 (l : Int)]
theorem WdAt.mod {w w' : World} {F : Nat → Prop} {g : Nat} {x : Int} (h : WdAt w g x) (hm : Mod F w w') (hg : ¬ F g) : WdAt w' g x := by
  obtain ⟨a, b, c, d, e⟩ := h
  exact ⟨a, b, c, d, e.mod hm hg⟩
theorem WdAt.halves (x : Int) : ∃ (h : Int) (l : Nat), x = h * 18446744073709551616 + (l : Int) ∧ l < 18446744073709551616 ∧ wd x = .agg #[.int .i64 h, .int .u64 (l : Int)] := by
  refine ⟨x / 18446744073709551616, (x % 18446744073709551616).toNat, by omega, by omega, wd_eq (by omega) (by omega)⟩
def RmRel (w : World) (a : Int) (m g1 g2 r : Nat) (wr : World) : Prop := ∃ x y : Int, RmOk a m x y r ∧ WdAt wr g1 x ∧ WdAt wr g2 y ∧ Mod none_ w wr ∧ w.heap.size ≤ g1 ∧ w.heap.size ≤ g2 ∧ g1 ≠ g2
set_option maxRecDepth 100000 in
set_option maxHeartbeats 4000000 in
theorem rtimes_ok (w : World) (a b : Int) (ha : I64 a) (hb : I64 b) : Calls Tryd.prog 28 #[.int .i64 a, .int .i64 b] w (SPost (a * b) w) := by
  have hmm := mag_le hb.1 hb.2
  obtain ⟨s1, s2⟩ := size_val b hb
  obtain ⟨m, hm⟩ : ∃ m, m = mag b := ⟨_, rfl⟩
  rw [← hm] at s1 s2 hmm
  have hab : (b < 0 → -(a * (m : Int)) = a * b) ∧ (¬ b < 0 → a * (m : Int) = a * b) := by
    subst hm
    unfold mag
    constructor
    · intro h; rw [show (b.natAbs : Int) = -b by omega, Int.mul_neg, Int.neg_neg]
    · intro h; rw [show (b.natAbs : Int) = b by omega]
  have hof := of_ok
  have hbd := am_bd ha hmm
  replace ha := Lib.hid ha
  replace hb := Lib.hid hb
  replace hm := Lib.hid hm
  replace hab := Lib.hid hab
  replace hof := Lib.hid hof
  by_cases hneg : b < 0
  · have s := s1 hneg
    clear s1 s2
    replace hmm := Lib.hid hmm
    replace hbd := Lib.hid hbd
    go_enter Tryd.func28, Tryd.ntmps28
    go_wp2_with fail
    refine (hof.out _ a ha.out).mono ?_
    obtain ⟨ah, al, q1, q2, q3⟩ := WdAt.halves a
    rintro e w1 ⟨rfl, hm1⟩
    rw [q3]
    dsimp only
    have z1 := hm1.size
    simp only [World.size_alloc] at z1
    replace q1 := Lib.hid q1
    replace q2 := Lib.hid q2
    replace hm1 := Lib.hid hm1
    go_wp2_with fail
    go_loopw [9] (fun x wr => ∃ r : Nat, x = .int .u64 (r : Int) ∧ RmRel w a m w.heap.size w1.heap.size r wr) (fun x _ => (intOf x).toNat)
    case atStart =>
      refine ⟨m, rfl, 0, a, ⟨by simp, fun h => ⟨by omega, h⟩, fun h => ⟨by omega, by omega⟩, hmm.out⟩, ⟨0, 0, by simp, by omega, ?_⟩, ⟨ah, al, q1.out, q2.out, Blk.new _ _ _⟩, (((Mod.refl none_ w).alloc _).trans hm1.out).alloc _, Nat.le_refl _, by omega, by omega⟩
      exact ((Blk.new w 54 #[.int .i64 0, .int .u64 ((0 : Nat) : Int)]).mod hm1.out (fun hh => hh)).alloc _
    case round =>
      obtain ⟨r, rfl, x, y, hok, hX, hY, hmr, _, hg2, hne⟩ := hrel
      by_cases hr : 0 < r
      · obtain ⟨bx, by_', bs⟩ := hok.bd ha.out hmm.out
        have by' := by_' hr
        have bs' := bs hr
        have hrne : ¬ r = 0 := by omega
        have hrb : (r : Int) ≤ 9223372036854775808 := by have := hok.2.2.2; omega
        have hpy := fun W => plus_ok W y y (by omega) (by omega)
        have hpx := fun W => plus_ok W x y (by omega) (by omega)
        obtain ⟨xh, xl, x1, x2, xb⟩ := hX
        obtain ⟨yh, yl, y1, y2, yb⟩ := hY
        rw [wd_eq y1 y2] at hpy hpx
        rw [wd_eq x1 x2] at hpx
        have hdd := WdAt.halves (y + y)
        have hss := WdAt.halves (x + y)
        obtain ⟨dh, dl, d1, d2, d3⟩ := hdd
        obtain ⟨sh, sl, t1, t2, t3⟩ := hss
        have c0 := xb.cell 0
        have c1 := xb.cell 1
        have e0 := yb.cell 0
        have e1 := yb.cell 1
        have hev := fun h => hok.even h
        have hod := fun h => hok.odd h
        clear bx by_' bs by' bs'
        replace hpy := Lib.hid hpy
        replace hpx := Lib.hid hpx
        replace x1 := Lib.hid x1
        replace x2 := Lib.hid x2
        replace y1 := Lib.hid y1
        replace y2 := Lib.hid y2
        replace xb := Lib.hid xb
        replace yb := Lib.hid yb
        replace d1 := Lib.hid d1
        replace d2 := Lib.hid d2
        replace t1 := Lib.hid t1
        replace t2 := Lib.hid t2
        replace hev := Lib.hid hev
        replace hod := Lib.hid hod
        replace hok := Lib.hid hok
        replace hmr := Lib.hid hmr
        by_cases ho : r % 2 = 1
        · have hoi : ((r : Int) % 2 == 1) = true := by simp; omega
          have hok2 := Lib.hid (hod.out ho)
          replace ho := Lib.hid ho
          go_wp2_with fail
          refine (hpx.out _).mono ?_
          rintro e w2 ⟨rfl, hm2⟩
          rw [t3]
          dsimp only
          have xb2 := xb.out.mod hm2 (fun hh => hh)
          have yb2 := yb.out.mod hm2 (fun hh => hh)
          have c0' := xb2.cell 0
          have c1' := xb2.cell 1
          have f0' := xb2.frozen 0
          have f1' := xb2.frozen 1
          have e0' := yb2.cell 0
          have e1' := yb2.cell 1
          have yb3 := (yb2.far (p := ⟨w.heap.size, 0, none⟩) hne.symm (.int .i64 sh)).far (p := ⟨w.heap.size, 1, none⟩) hne.symm (.int .u64 (sl : Int))
          have xb3 := (xb2.set_ 0 (.int .i64 sh)).set_ 1 (.int .u64 (sl : Int))
          have hm3 := (((hmr.out.trans hm2).setCell (p := ⟨w.heap.size, 0, none⟩) (.inr (Nat.le_refl _)) (.int .i64 sh)).setCell (p := ⟨w.heap.size, 1, none⟩) (.inr (Nat.le_refl _)) (.int .u64 (sl : Int)))
          clear c0 c1 e0 e1
          replace hm2 := Lib.hid hm2
          replace xb2 := Lib.hid xb2
          replace yb2 := Lib.hid yb2
          replace xb3 := Lib.hid xb3
          replace yb3 := Lib.hid yb3
          replace hm3 := Lib.hid hm3
          go_wp2_with fail
          refine (hpy.out _).mono ?_
          rintro e w4 ⟨rfl, hm4⟩
          rw [d3]
          dsimp only
          have yb4 := yb3.out.mod hm4 (fun hh => hh)
          have xb4 := xb3.out.mod hm4 (fun hh => hh)
          have g0 := yb4.cell 0
          have g1 := yb4.cell 1
          have g2 := yb4.frozen 0
          have g3 := yb4.frozen 1
          have hlast : RmRel w a m w.heap.size w1.heap.size (r / 2) ((w4.setCell ⟨w1.heap.size, 0, none⟩ (.int .i64 dh)).setCell ⟨w1.heap.size, 1, none⟩ (.int .u64 (dl : Int))) :=
            ⟨x + y, y + y, hok2.out, ⟨sh, sl, t1.out, t2.out, (xb4.far (p := ⟨w1.heap.size, 0, none⟩) hne _).far (p := ⟨w1.heap.size, 1, none⟩) hne _⟩, ⟨dh, dl, d1.out, d2.out, (yb4.set_ 0 _).set_ 1 _⟩, ((hm3.out.trans hm4).setCell (p := ⟨w1.heap.size, 0, none⟩) (.inr hg2) _).setCell (p := ⟨w1.heap.size, 1, none⟩) (.inr hg2) _, Nat.le_refl _, hg2, hne⟩
          clear c0' c1' f0' f1' e0' e1'
          replace hm4 := Lib.hid hm4
          replace yb4 := Lib.hid yb4
          replace xb4 := Lib.hid xb4
          replace hlast := Lib.hid hlast
          go_wp2_with fail
          go_roundw
          case rel => exact ⟨r / 2, by go_num, hlast.out⟩
          case measure => simp [intOf]; omega
        · have hoi : ((r : Int) % 2 == 1) = false := by simp; omega
          have hok2 := Lib.hid (hev.out (by omega))
          replace ho := Lib.hid ho
          go_wp2_with fail
          refine (hpy.out _).mono ?_
          rintro e w4 ⟨rfl, hm4⟩
          rw [d3]
          dsimp only
          have yb4 := yb.out.mod hm4 (fun hh => hh)
          have xb4 := xb.out.mod hm4 (fun hh => hh)
          have g0 := yb4.cell 0
          have g1 := yb4.cell 1
          have g2 := yb4.frozen 0
          have g3 := yb4.frozen 1
          have hlast : RmRel w a m w.heap.size w1.heap.size (r / 2) ((w4.setCell ⟨w1.heap.size, 0, none⟩ (.int .i64 dh)).setCell ⟨w1.heap.size, 1, none⟩ (.int .u64 (dl : Int))) :=
            ⟨x, y + y, hok2.out, ⟨xh, xl, x1.out, x2.out, (xb4.far (p := ⟨w1.heap.size, 0, none⟩) hne _).far (p := ⟨w1.heap.size, 1, none⟩) hne _⟩, ⟨dh, dl, d1.out, d2.out, (yb4.set_ 0 _).set_ 1 _⟩, ((hmr.out.trans hm4).setCell (p := ⟨w1.heap.size, 0, none⟩) (.inr hg2) _).setCell (p := ⟨w1.heap.size, 1, none⟩) (.inr hg2) _, Nat.le_refl _, hg2, hne⟩
          clear c0 c1 e0 e1
          replace hm4 := Lib.hid hm4
          replace yb4 := Lib.hid yb4
          replace xb4 := Lib.hid xb4
          replace hlast := Lib.hid hlast
          go_wp2_with fail
          go_roundw
          case rel => exact ⟨r / 2, by go_num, hlast.out⟩
          case measure => simp [intOf]; omega
      · have hr0 : r = 0 := by omega
        subst hr0
        have hx : x = a * (m : Int) := by have := hok.1; simpa using this
        have hxb := (hok.bd ha.out hmm.out).1
        obtain ⟨xh, xl, x1, x2, xb⟩ := hX
        have c0 := xb.cell 0
        have c1 := xb.cell 1
        have hmn := fun W => minus_ok W x (by omega) (by omega)
        rw [wd_eq x1 x2] at hmn
        obtain ⟨nh, nl, n1, n2, n3⟩ := WdAt.halves (-x)
        have hsm := fun W => sum_ok W (-x) (by omega) (by omega)
        rw [n3] at hsm
        have hfin : -x = a * b := by rw [hx]; exact hab.out.1 hneg
        clear hxb
        replace x1 := Lib.hid x1
        replace x2 := Lib.hid x2
        replace xb := Lib.hid xb
        replace hmn := Lib.hid hmn
        replace n1 := Lib.hid n1
        replace n2 := Lib.hid n2
        replace hsm := Lib.hid hsm
        replace hfin := Lib.hid hfin
        replace hx := Lib.hid hx
        replace hok := Lib.hid hok
        replace hY := Lib.hid hY
        replace hmr := Lib.hid hmr
        go_wp2_with fail
        refine (hmn.out _).mono ?_
        rintro e w4 ⟨rfl, hm4⟩
        rw [n3]
        dsimp only
        have b4 := xb.out.mod hm4 (fun hh => hh)
        have c0' := b4.cell 0
        have c1' := b4.cell 1
        have f0' := b4.frozen 0
        have f1' := b4.frozen 1
        replace hm4 := Lib.hid hm4
        go_wp2_with fail
        refine (hsm.out _).mono ?_
        rintro e w5 ⟨rfl, hm5⟩
        dsimp only
        replace hm5 := Lib.hid hm5
        go_wp2_with fail
        go_ret2
        refine ⟨by rw [hfin.out]; rfl, (((hmr.out.trans hm4.out).setCell (.inr (Nat.le_refl _)) _).setCell (.inr (Nat.le_refl _)) _).trans hm5.out⟩
  · have s := s2 hneg
    clear s1 s2
    replace hmm := Lib.hid hmm
    replace hbd := Lib.hid hbd
    go_enter Tryd.func28, Tryd.ntmps28
    go_wp2_with fail
    refine (hof.out _ a ha.out).mono ?_
    obtain ⟨ah, al, q1, q2, q3⟩ := WdAt.halves a
    rintro e w1 ⟨rfl, hm1⟩
    rw [q3]
    dsimp only
    have z1 := hm1.size
    simp only [World.size_alloc] at z1
    replace q1 := Lib.hid q1
    replace q2 := Lib.hid q2
    replace hm1 := Lib.hid hm1
    go_wp2_with fail
    go_loopw [9] (fun x wr => ∃ r : Nat, x = .int .u64 (r : Int) ∧ RmRel w a m w.heap.size w1.heap.size r wr) (fun x _ => (intOf x).toNat)
    case atStart =>
      refine ⟨m, rfl, 0, a, ⟨by simp, fun h => ⟨by omega, h⟩, fun h => ⟨by omega, by omega⟩, hmm.out⟩, ⟨0, 0, by simp, by omega, ?_⟩, ⟨ah, al, q1.out, q2.out, Blk.new _ _ _⟩, (((Mod.refl none_ w).alloc _).trans hm1.out).alloc _, Nat.le_refl _, by omega, by omega⟩
      exact ((Blk.new w 54 #[.int .i64 0, .int .u64 ((0 : Nat) : Int)]).mod hm1.out (fun hh => hh)).alloc _
    case round =>
      obtain ⟨r, rfl, x, y, hok, hX, hY, hmr, _, hg2, hne⟩ := hrel
      by_cases hr : 0 < r
      · obtain ⟨bx, by_', bs⟩ := hok.bd ha.out hmm.out
        have by' := by_' hr
        have bs' := bs hr
        have hrne : ¬ r = 0 := by omega
        have hrb : (r : Int) ≤ 9223372036854775808 := by have := hok.2.2.2; omega
        have hpy := fun W => plus_ok W y y (by omega) (by omega)
        have hpx := fun W => plus_ok W x y (by omega) (by omega)
        obtain ⟨xh, xl, x1, x2, xb⟩ := hX
        obtain ⟨yh, yl, y1, y2, yb⟩ := hY
        rw [wd_eq y1 y2] at hpy hpx
        rw [wd_eq x1 x2] at hpx
        have hdd := WdAt.halves (y + y)
        have hss := WdAt.halves (x + y)
        obtain ⟨dh, dl, d1, d2, d3⟩ := hdd
        obtain ⟨sh, sl, t1, t2, t3⟩ := hss
        have c0 := xb.cell 0
        have c1 := xb.cell 1
        have e0 := yb.cell 0
        have e1 := yb.cell 1
        have hev := fun h => hok.even h
        have hod := fun h => hok.odd h
        clear bx by_' bs by' bs'
        replace hpy := Lib.hid hpy
        replace hpx := Lib.hid hpx
        replace x1 := Lib.hid x1
        replace x2 := Lib.hid x2
        replace y1 := Lib.hid y1
        replace y2 := Lib.hid y2
        replace xb := Lib.hid xb
        replace yb := Lib.hid yb
        replace d1 := Lib.hid d1
        replace d2 := Lib.hid d2
        replace t1 := Lib.hid t1
        replace t2 := Lib.hid t2
        replace hev := Lib.hid hev
        replace hod := Lib.hid hod
        replace hok := Lib.hid hok
        replace hmr := Lib.hid hmr
        by_cases ho : r % 2 = 1
        · have hoi : ((r : Int) % 2 == 1) = true := by simp; omega
          have hok2 := Lib.hid (hod.out ho)
          replace ho := Lib.hid ho
          go_wp2_with fail
          refine (hpx.out _).mono ?_
          rintro e w2 ⟨rfl, hm2⟩
          rw [t3]
          dsimp only
          have xb2 := xb.out.mod hm2 (fun hh => hh)
          have yb2 := yb.out.mod hm2 (fun hh => hh)
          have c0' := xb2.cell 0
          have c1' := xb2.cell 1
          have f0' := xb2.frozen 0
          have f1' := xb2.frozen 1
          have e0' := yb2.cell 0
          have e1' := yb2.cell 1
          have yb3 := (yb2.far (p := ⟨w.heap.size, 0, none⟩) hne.symm (.int .i64 sh)).far (p := ⟨w.heap.size, 1, none⟩) hne.symm (.int .u64 (sl : Int))
          have xb3 := (xb2.set_ 0 (.int .i64 sh)).set_ 1 (.int .u64 (sl : Int))
          have hm3 := (((hmr.out.trans hm2).setCell (p := ⟨w.heap.size, 0, none⟩) (.inr (Nat.le_refl _)) (.int .i64 sh)).setCell (p := ⟨w.heap.size, 1, none⟩) (.inr (Nat.le_refl _)) (.int .u64 (sl : Int)))
          clear c0 c1 e0 e1
          replace hm2 := Lib.hid hm2
          replace xb2 := Lib.hid xb2
          replace yb2 := Lib.hid yb2
          replace xb3 := Lib.hid xb3
          replace yb3 := Lib.hid yb3
          replace hm3 := Lib.hid hm3
          go_wp2_with fail
          refine (hpy.out _).mono ?_
          rintro e w4 ⟨rfl, hm4⟩
          rw [d3]
          dsimp only
          have yb4 := yb3.out.mod hm4 (fun hh => hh)
          have xb4 := xb3.out.mod hm4 (fun hh => hh)
          have g0 := yb4.cell 0
          have g1 := yb4.cell 1
          have g2 := yb4.frozen 0
          have g3 := yb4.frozen 1
          have hlast : RmRel w a m w.heap.size w1.heap.size (r / 2) ((w4.setCell ⟨w1.heap.size, 0, none⟩ (.int .i64 dh)).setCell ⟨w1.heap.size, 1, none⟩ (.int .u64 (dl : Int))) :=
            ⟨x + y, y + y, hok2.out, ⟨sh, sl, t1.out, t2.out, (xb4.far (p := ⟨w1.heap.size, 0, none⟩) hne _).far (p := ⟨w1.heap.size, 1, none⟩) hne _⟩, ⟨dh, dl, d1.out, d2.out, (yb4.set_ 0 _).set_ 1 _⟩, ((hm3.out.trans hm4).setCell (p := ⟨w1.heap.size, 0, none⟩) (.inr hg2) _).setCell (p := ⟨w1.heap.size, 1, none⟩) (.inr hg2) _, Nat.le_refl _, hg2, hne⟩
          clear c0' c1' f0' f1' e0' e1'
          replace hm4 := Lib.hid hm4
          replace yb4 := Lib.hid yb4
          replace xb4 := Lib.hid xb4
          replace hlast := Lib.hid hlast
          go_wp2_with fail
          go_roundw
          case rel => exact ⟨r / 2, by go_num, hlast.out⟩
          case measure => simp [intOf]; omega
        · have hoi : ((r : Int) % 2 == 1) = false := by simp; omega
          have hok2 := Lib.hid (hev.out (by omega))
          replace ho := Lib.hid ho
          go_wp2_with fail
          refine (hpy.out _).mono ?_
          rintro e w4 ⟨rfl, hm4⟩
          rw [d3]
          dsimp only
          have yb4 := yb.out.mod hm4 (fun hh => hh)
          have xb4 := xb.out.mod hm4 (fun hh => hh)
          have g0 := yb4.cell 0
          have g1 := yb4.cell 1
          have g2 := yb4.frozen 0
          have g3 := yb4.frozen 1
          have hlast : RmRel w a m w.heap.size w1.heap.size (r / 2) ((w4.setCell ⟨w1.heap.size, 0, none⟩ (.int .i64 dh)).setCell ⟨w1.heap.size, 1, none⟩ (.int .u64 (dl : Int))) :=
            ⟨x, y + y, hok2.out, ⟨xh, xl, x1.out, x2.out, (xb4.far (p := ⟨w1.heap.size, 0, none⟩) hne _).far (p := ⟨w1.heap.size, 1, none⟩) hne _⟩, ⟨dh, dl, d1.out, d2.out, (yb4.set_ 0 _).set_ 1 _⟩, ((hmr.out.trans hm4).setCell (p := ⟨w1.heap.size, 0, none⟩) (.inr hg2) _).setCell (p := ⟨w1.heap.size, 1, none⟩) (.inr hg2) _, Nat.le_refl _, hg2, hne⟩
          clear c0 c1 e0 e1
          replace hm4 := Lib.hid hm4
          replace yb4 := Lib.hid yb4
          replace xb4 := Lib.hid xb4
          replace hlast := Lib.hid hlast
          go_wp2_with fail
          go_roundw
          case rel => exact ⟨r / 2, by go_num, hlast.out⟩
          case measure => simp [intOf]; omega
      · have hr0 : r = 0 := by omega
        subst hr0
        have hx : x = a * (m : Int) := by have := hok.1; simpa using this
        have hxb := (hok.bd ha.out hmm.out).1
        obtain ⟨xh, xl, x1, x2, xb⟩ := hX
        have c0 := xb.cell 0
        have c1 := xb.cell 1
        have hsm := fun W => sum_ok W x (by omega) (by omega)
        rw [wd_eq x1 x2] at hsm
        have hfin : x = a * b := by rw [hx]; exact hab.out.2 hneg
        clear hxb
        replace x1 := Lib.hid x1
        replace x2 := Lib.hid x2
        replace xb := Lib.hid xb
        replace hsm := Lib.hid hsm
        replace hfin := Lib.hid hfin
        replace hx := Lib.hid hx
        replace hok := Lib.hid hok
        replace hY := Lib.hid hY
        replace hmr := Lib.hid hmr
        go_wp2_with fail
        refine (hsm.out _).mono ?_
        rintro e w5 ⟨rfl, hm5⟩
        dsimp only
        replace hm5 := Lib.hid hm5
        go_wp2_with fail
        go_ret2
        refine ⟨by rw [hfin.out]; rfl, hmr.out.trans hm5.out⟩
end Go.Proofs.YthoedngacopaiaaDoor
