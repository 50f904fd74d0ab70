/-
  The reference's wide numbers: the contracts of Of, Plus, Minus, Sum. No condition.
-/
import Derived.Test.YtaohgefpnndjcaaCoinTotal
import Derived.Deep.QuietTactic
namespace Go.Proofs.Ytaohgefpnndjcaa
set_option linter.unusedVariables false
open Go.RowKit
/-- A number in two halves. -/
def wd (x : Int) : Value := .agg #[.int .i64 (x / 18446744073709551616), .int .u64 (x % 18446744073709551616)]
theorem wd_eq {x h : Int} {l : Nat} (e : x = h * 18446744073709551616 + (l : Int)) (hl : l < 18446744073709551616) : wd x = .agg #[.int .i64 h, .int .u64 (l : Int)] := by
  unfold wd
  rw [show x / 18446744073709551616 = h by omega, show x % 18446744073709551616 = (l : Int) by omega]
def WPost (x : Int) (w : World) (e : Ending) (w' : World) : Prop := e = .returned (wd x) ∧ Mod none_ w w'
set_option maxRecDepth 100000 in
theorem of_ok (w : World) (a : Int) (ha : I64 a) : Calls Try.prog 59 #[.int .i64 a] w (WPost a w) := by
  obtain ⟨a1, a2⟩ := ha
  obtain ⟨u, hu⟩ : ∃ u : Nat, IntKind.u64.wrap a = (u : Int) := ⟨(IntKind.u64.wrap a).toNat, by rw [IntKind.wrap_u64]; omega⟩
  have hu2 := hu
  rw [IntKind.wrap_u64] at hu2
  have hm : ∀ o1 o2 : Obj, Mod none_ w ((w.alloc o1).alloc o2) := fun _ _ => ((Mod.refl none_ w).alloc _).alloc _
  by_cases h : a < 0
  · have e := Lib.hid (wd_eq (x := a) (h := -1) (l := u) (by omega) (by omega))
    clear hu2
    replace hm := Lib.hid hm
    go_enter Try.func59, Try.ntmps59
    go_wp2
    exact bodyPost_ret (v := .agg #[.int .i64 (-1), .int .u64 (u : Int)]) (by simp [results, Try.results59, go_sem]) rfl ⟨by rw [e.out], hm.out _ _⟩
  · have e := Lib.hid (wd_eq (x := a) (h := 0) (l := u) (by omega) (by omega))
    clear hu2
    replace hm := Lib.hid hm
    go_enter Try.func59, Try.ntmps59
    go_wp2
    exact bodyPost_ret (v := .agg #[.int .i64 0, .int .u64 (u : Int)]) (by simp [results, Try.results59, go_sem]) rfl ⟨by rw [e.out], hm.out _ _⟩
set_option maxRecDepth 100000 in
theorem plus_ok (w : World) (x y : Int) (h1 : -9223372036854775808 ≤ x / 18446744073709551616 + y / 18446744073709551616) (h2 : x / 18446744073709551616 + y / 18446744073709551616 + 1 ≤ 9223372036854775807) :
    Calls Try.prog 58 #[wd x, wd y] w (WPost (x + y) w) := by
  obtain ⟨xh, hxh⟩ : ∃ xh, xh = x / 18446744073709551616 := ⟨_, rfl⟩
  obtain ⟨yh, hyh⟩ : ∃ yh, yh = y / 18446744073709551616 := ⟨_, rfl⟩
  obtain ⟨xl, hxl⟩ : ∃ xl : Nat, (xl : Int) = x % 18446744073709551616 := ⟨(x % 18446744073709551616).toNat, by omega⟩
  obtain ⟨yl, hyl⟩ : ∃ yl : Nat, (yl : Int) = y % 18446744073709551616 := ⟨(y % 18446744073709551616).toNat, by omega⟩
  have ex : wd x = .agg #[.int .i64 xh, .int .u64 (xl : Int)] := by unfold wd; rw [hxh, hxl]
  have ey : wd y = .agg #[.int .i64 yh, .int .u64 (yl : Int)] := by unfold wd; rw [hyh, hyl]
  rw [ex, ey]
  rw [← hxh, ← hyh] at h1 h2
  clear ex ey
  by_cases hc : xl + yl < 18446744073709551616
  · obtain ⟨s, hs⟩ : ∃ s : Nat, s = xl + yl := ⟨_, rfl⟩
    have hw : IntKind.u64.wrap ((xl : Int) + (yl : Int)) = (s : Int) := by rw [IntKind.wrap_u64]; omega
    have e := Lib.hid (wd_eq (x := x + y) (h := xh + yh) (l := s) (by omega) (by omega))
    have hlt : ¬ s < xl := by omega
    clear hxh hyh hxl hyl hs hc
    go_enter Try.func58, Try.ntmps58
    go_wp2
    refine bodyPost_ret (v := .agg #[.int .i64 (xh + yh), .int .u64 (s : Int)]) (by simp [results, Try.results58, go_sem]) rfl ⟨by rw [e.out], ?_⟩
    (repeat (refine Mod.alloc ?_ _)); exact Mod.refl _ _
  · obtain ⟨s, hs⟩ : ∃ s : Nat, xl + yl = 18446744073709551616 + s := ⟨xl + yl - 18446744073709551616, by omega⟩
    have hw : IntKind.u64.wrap ((xl : Int) + (yl : Int)) = (s : Int) := by rw [IntKind.wrap_u64]; omega
    have e := Lib.hid (wd_eq (x := x + y) (h := xh + yh + 1) (l := s) (by omega) (by omega))
    have hlt : s < xl := by omega
    clear hxh hyh hxl hyl hs hc
    go_enter Try.func58, Try.ntmps58
    go_wp2
    refine bodyPost_ret (v := .agg #[.int .i64 (xh + yh + 1), .int .u64 (s : Int)]) (by simp [results, Try.results58, go_sem]) rfl ⟨by rw [e.out], ?_⟩
    (repeat (refine Mod.alloc ?_ _)); exact Mod.refl _ _
set_option maxRecDepth 100000 in
theorem minus_ok (w : World) (x : Int) (h1 : -9223372036854775808 < x / 18446744073709551616) (h2 : x / 18446744073709551616 ≤ 9223372036854775807) :
    Calls Try.prog 61 #[wd x] w (WPost (-x) w) := by
  obtain ⟨xh, hxh⟩ : ∃ xh, xh = x / 18446744073709551616 := ⟨_, rfl⟩
  obtain ⟨xl, hxl⟩ : ∃ xl : Nat, (xl : Int) = x % 18446744073709551616 := ⟨(x % 18446744073709551616).toNat, by omega⟩
  have ex : wd x = .agg #[.int .i64 xh, .int .u64 (xl : Int)] := by unfold wd; rw [hxh, hxl]
  rw [ex]
  rw [← hxh] at h1 h2
  clear ex
  by_cases hc : xl = 0
  · subst hc
    have e := Lib.hid (wd_eq (x := -x) (h := -xh) (l := 0) (by omega) (by omega))
    clear hxh hxl
    go_enter Try.func61, Try.ntmps61
    go_wp2
    refine bodyPost_ret (v := .agg #[.int .i64 (-xh), .int .u64 ((0 : Nat) : Int)]) (by simp [results, Try.results61, go_sem]) rfl ⟨by rw [e.out], ?_⟩
    (repeat (refine Mod.alloc ?_ _)); exact Mod.refl _ _
  · obtain ⟨s, hs⟩ : ∃ s : Nat, xl + s = 18446744073709551616 := ⟨18446744073709551616 - xl, by omega⟩
    have hw : IntKind.u64.wrap (-(xl : Int)) = (s : Int) := by rw [IntKind.wrap_u64]; omega
    have e := Lib.hid (wd_eq (x := -x) (h := -xh - 1) (l := s) (by omega) (by omega))
    clear hxh hxl hs
    go_enter Try.func61, Try.ntmps61
    go_wp2
    refine bodyPost_ret (v := .agg #[.int .i64 (-xh - 1), .int .u64 (s : Int)]) (by simp [results, Try.results61, go_sem]) rfl ⟨by rw [e.out], ?_⟩
    (repeat (refine Mod.alloc ?_ _)); exact Mod.refl _ _
theorem wrap64_in64 (x : Int) : I64 (wrap64 x) := by unfold I64 wrap64; omega
theorem sum_in {x h : Int} {l : Nat} (e : x = h * 18446744073709551616 + (l : Int)) (hl : l < 18446744073709551616) :
    (inI x = true → h = wrap64 (l : Int) / 18446744073709551616 ∧ wrap64 (l : Int) = x) ∧ (inI x = false → h ≠ wrap64 (l : Int) / 18446744073709551616) := by
  constructor
  · intro hi
    have := inI_yes.1 hi
    unfold wrap64
    omega
  · intro hi he
    have : ¬ (inI x = true) := by rw [hi]; simp
    rw [inI_yes] at this
    unfold wrap64 at he
    omega
set_option maxRecDepth 100000 in
set_option maxHeartbeats 2000000 in
theorem sum_ok (w : World) (x : Int) (h1 : -9223372036854775808 ≤ x / 18446744073709551616) (h2 : x / 18446744073709551616 ≤ 9223372036854775807) :
    Calls Try.prog 60 #[wd x] w fun e w' => e = .returned (.tuple #[.int .i64 (sumR x).1, .int .i64 ((sumR x).2 : Int)]) ∧ Mod none_ w w' := by
  obtain ⟨xh, hxh⟩ : ∃ xh, xh = x / 18446744073709551616 := ⟨_, rfl⟩
  obtain ⟨xl, hxl⟩ : ∃ xl : Nat, (xl : Int) = x % 18446744073709551616 := ⟨(x % 18446744073709551616).toNat, by omega⟩
  have ex : wd x = .agg #[.int .i64 xh, .int .u64 (xl : Int)] := by unfold wd; rw [hxh, hxl]
  rw [ex]
  obtain ⟨s1, s2⟩ := sum_in (x := x) (h := xh) (l := xl) (by omega) (by omega)
  rw [← hxh] at h1 h2
  have hw := wrap64_in64 (xl : Int)
  obtain ⟨y, hy⟩ : ∃ y, wrap64 (xl : Int) = y := ⟨_, rfl⟩
  rw [hy] at s1 s2 hw
  have hof : ∀ W, Calls Try.prog 59 #[.int .i64 y] W (WPost y W) := fun W => of_ok W y hw
  obtain ⟨yh, hyh⟩ : ∃ yh, yh = y / 18446744073709551616 := ⟨_, rfl⟩
  obtain ⟨yl, hyl⟩ : ∃ yl : Nat, (yl : Int) = y % 18446744073709551616 := ⟨(y % 18446744073709551616).toNat, by omega⟩
  have ey : wd y = .agg #[.int .i64 yh, .int .u64 (yl : Int)] := by unfold wd; rw [hyh, hyl]
  rw [← hyh] at s1 s2
  clear ex
  replace hof := Lib.hid hof
  replace ey := Lib.hid ey
  have hyl2 : xl = yl := by unfold wrap64 at hy; omega
  have hy3 : IntKind.i64.wrap (xl : Int) = y := by rw [← hy, IntKind.wrap_i64]; unfold wrap64; rfl
  subst hyl2
  have hb : Blk (w.alloc (.cells #[.int .i64 xh, .int .u64 (xl : Int)] 85)) w.heap.size 85 #[.int .i64 xh, .int .u64 (xl : Int)] := Blk.new w _ _
  clear hxh hxl hyh hyl
  have hs : (xh == yh) = inI x := by
    cases hi : inI x with
    | true => simp [(s1 hi).1]
    | false => simp [s2 hi]
  have hs' : (xh != yh) = !inI x := by rw [← hs]; rfl
  have hy2 : Hid (inI x = true → y = x) := Lib.hid fun hi => (s1 hi).2
  clear s1 s2
  replace hb := Lib.hid hb
  cases hi : inI x
  all_goals
    rw [hi] at hs hs'
    have hr := Lib.hid hi
    clear hi
    go_enter Try.func60, Try.ntmps60
    go_wp2_with fail
    go_region_with (go_at_call 59; (with_reducible refine (hof.out _).mono ?_); rintro e w1 ⟨rfl, hm1⟩; rw [ey.out]; dsimp only; have hb1 := Blk.mod (hb.out.drew) hm1 (fun hh => hh); have c0 := hb1.cell 0; have c1 := hb1.cell 1; replace hm1 := Lib.hid hm1; replace hb1 := Lib.hid hb1)
    all_goals
      go_wp2_with fail
      go_ret2
      refine ⟨?_, ((Mod.refl none_ w).alloc _).drew.trans hm1.out⟩
      first | (rw [sumR_no hr.out]; rfl) | (rw [sumR_yes hr.out, ← hy2.out hr.out]; rfl)
end Go.Proofs.Ytaohgefpnndjcaa
