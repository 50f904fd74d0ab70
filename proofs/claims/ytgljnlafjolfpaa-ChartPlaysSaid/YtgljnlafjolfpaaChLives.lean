/-
  What every law of chapter 5 begins with; ChartNil: the walk.
-/
import Derived.Test.YtgljnlafjolfpaaChDoes
import Derived.Test.YtgljnlafjolfpaaChSame
namespace Go.Proofs.Ytgljnlafjolfpaa
set_option linter.unusedVariables false
open Go.RowKit
def c1_ : List Ac := [⟨[97], 0, 0, 5⟩]
def c2_ : List Ac := [⟨[97], -5, 0, 5⟩]
theorem lv1 : openR [] [97] 5 = (c1_, 0) := by decide +kernel
theorem lv2 : turnR c1_ [97] 5 (giveA 5) = (c2_, 0) := by decide +kernel
theorem lv3 : turnR c2_ [97] 1 (giveA 1) = (c2_, 9) := by decide +kernel
theorem lv5 : nameB [97, 49] = true := by decide +kernel
theorem lv6 : nameB [65] = false := by decide +kernel
theorem ok1 : OkC c1_ := ⟨fun a h => by
  have := List.mem_singleton.1 h
  subst this
  exact ⟨by unfold WfA I64; dsimp only; omega, by decide⟩, by decide⟩
theorem ok2 : OkC c2_ := ⟨fun a h => by
  have := List.mem_singleton.1 h
  subst this
  exact ⟨by unfold WfA I64; dsimp only; omega, by decide⟩, by decide⟩
set_option maxRecDepth 100000 in
set_option maxHeartbeats 2000000 in
theorem lives_ok (w : World) : Calls Try.prog 8 #[] w fun e w' => e = .returned (.bool true) ∧ Mod none_ w w' := by
  have k0 := Lib.hid (new_ok w)
  have k1 := Lib.hid (fun W p b (h : ChAt W p b []) => by have := open_ok W p b [] ⟨#[97]⟩ 5 h (by decide) OkC.nil; rw [show (⟨#[97]⟩ : ByteArray).data.toList = [97] from rfl, lv1] at this; exact this)
  have k2 := Lib.hid (fun W p b (h : ChAt W p b c1_) => by have := give_ok W p b c1_ ⟨#[97]⟩ 5 h (by decide) ok1.wf (by unfold I64; omega) (by decide); rw [show (⟨#[97]⟩ : ByteArray).data.toList = [97] from rfl, lv2] at this; exact this)
  have k3 := Lib.hid (fun W p b (h : ChAt W p b c2_) => by have := give_ok W p b c2_ ⟨#[97]⟩ 1 h (by decide) ok2.wf (by unfold I64; omega) (by decide); rw [show (⟨#[97]⟩ : ByteArray).data.toList = [97] from rfl, lv3] at this; exact this)
  have k4 := Lib.hid (fun W p b (h : ChAt W p b c2_) => get_ok W p b c2_ ⟨#[97]⟩ h (by decide))
  have k5 := Lib.hid (fun W p b (h : ChAt W p b c2_) => all_ok W p b c2_ h (by decide) ok2.nm)
  have k6 := Lib.hid (fun W => by have := name_ok W ⟨#[97, 49]⟩; rw [show (⟨#[97, 49]⟩ : ByteArray).data.toList = [97, 49] from rfl, lv5] at this; exact this)
  have k7 := Lib.hid (fun W => by have := name_ok W ⟨#[65]⟩; rw [show (⟨#[65]⟩ : ByteArray).data.toList = [65] from rfl, lv6] at this; exact this)
  rw [show getV c2_ (⟨#[97]⟩ : ByteArray).data.toList = (.agg #[.string (txt [97]), .int .i64 (-5), .int .i64 0, .int .i64 5], 0) from rfl] at k4
  rw [show txt [97] = (⟨#[97]⟩ : ByteArray) from rfl] at k4
  have heq := fun W => eql_ac W ⟨[97], -5, 0, 5⟩ ⟨[97], -5, 0, 5⟩
  rw [decide_eq_true rfl] at heq
  unfold acV at heq
  dsimp only at heq
  rw [show txt [97] = (⟨#[97]⟩ : ByteArray) from rfl] at heq
  go_enter Try.func8, Try.ntmps8
  go_wp2_with fail
  refine k0.out.mono ?_
  rintro e w0 ⟨p, b, rfl, hc, hm, hp, hb⟩
  dsimp only
  replace hc := Lib.hid hc
  replace hm := Lib.hid hm
  replace hp := Lib.hid hp
  replace hb := Lib.hid hb
  go_wp2_with fail
  refine (k1.out _ p b hc.out).mono ?_
  rintro e w1 ⟨rfl, hc1, hm1⟩
  dsimp only at hc1 ⊢
  have hmw1 := Lib.hid (hm.out.then hm1 (fun i hi he => by have := hb.out; have : i = b := he; omega))
  replace hc1 := Lib.hid hc1
  replace hm1 := Lib.hid hm1
  go_wp2_with fail
  refine (k2.out _ p b hc1.out).mono ?_
  rintro e w2 ⟨rfl, hc2, hm2⟩
  dsimp only at hc2 ⊢
  have hmw2 := Lib.hid (hmw1.out.then hm2 (fun i hi he => by have := hb.out; have : i = b := he; omega))
  replace hc2 := Lib.hid hc2
  replace hm2 := Lib.hid hm2
  go_wp2_with fail
  refine (k3.out _ p b hc2.out).mono ?_
  rintro e w3 ⟨rfl, hc3, hm3⟩
  dsimp only at hc3 ⊢
  have hmw3 := Lib.hid (hmw2.out.then hm3 (fun i hi he => by have := hb.out; have : i = b := he; omega))
  replace hc3 := Lib.hid hc3
  replace hm3 := Lib.hid hm3
  go_wp2_with fail
  refine (k4.out _ p b hc3.out).mono ?_
  rintro e w4 ⟨rfl, hm4⟩
  dsimp only
  have hmw4 := Lib.hid (hmw3.out.then hm4 (fun _ _ h => h))
  have hc4 := Lib.hid (hc3.out.mod0 hm4)
  replace hm4 := Lib.hid hm4
  go_wp2_with fail
  refine (k5.out _ p b (hc4.out.alloc _)).mono ?_
  rintro e w5 ⟨A, c, rfl, ho, hf, hm5⟩
  dsimp only [c2_, List.length_cons, List.length_nil]
  have hmw5 := Lib.hid ((hmw4.out.alloc _).then hm5 (fun _ _ h => h))
  clear ho hf hm5
  go_wp2_with fail
  refine (k6.out _).mono ?_
  rintro e w6 ⟨rfl, hm6⟩
  dsimp only
  have hmw6 := Lib.hid (hmw5.out.then hm6 (fun _ _ h => h))
  clear hm6
  go_wp2_with fail
  refine (k7.out _).mono ?_
  rintro e w7 ⟨rfl, hm7⟩
  dsimp only
  have hmw7 := Lib.hid (hmw6.out.then hm7 (fun _ _ h => h))
  clear hm7
  go_wp2_with fail
  go_ret
  exact ⟨rfl, hmw7.out⟩
set_option maxRecDepth 100000 in
theorem open_nil (w : World) (s : ByteArray) (x : Int) : Calls Try.prog 19 #[.pointer none, .string s, .int .i64 x] w fun e w' => e = .returned (.int .i64 1) ∧ Mod none_ w w' := by
  go_enter Try.func19, Try.ntmps19
  go_wp2_with fail
  go_ret
  exact ⟨rfl, Mod.refl _ _⟩
set_option maxRecDepth 100000 in
theorem turn_nil (w : World) (s : ByteArray) (x : Int) (f : Value) : Calls Try.prog 28 #[.pointer none, .string s, .int .i64 x, f] w fun e w' => e = .returned (.int .i64 1) ∧ Mod none_ w w' := by
  have cg := Lib.hid (get_nil w s)
  go_enter Try.func28, Try.ntmps28
  go_wp2_with fail
  refine cg.out.mono ?_
  rintro e w1 ⟨rfl, hm⟩
  dsimp only [zeroA]
  have m1 := Lib.hid hm
  clear hm
  go_wp2_with fail
  go_ret
  exact ⟨rfl, m1.out.alloc _⟩
set_option maxRecDepth 100000 in
theorem give_nil (w : World) (s : ByteArray) (x : Int) : Calls Try.prog 17 #[.pointer none, .string s, .int .i64 x] w fun e w' => e = .returned (.int .i64 1) ∧ Mod none_ w w' := by
  have ct := Lib.hid (fun W f => turn_nil W s x f)
  go_enter Try.func17, Try.ntmps17
  go_wp2_with fail
  refine (ct.out _ _).mono ?_
  rintro e w1 ⟨rfl, hm⟩
  dsimp only
  have m1 := Lib.hid (((Mod.refl none_ w).alloc (.cells #[.int .i64 x] 2)).then hm (fun _ _ h => h))
  clear hm
  go_wp2_with fail
  go_ret
  exact ⟨rfl, m1.out⟩
set_option maxRecDepth 100000 in
theorem aside_nil (w : World) (s : ByteArray) (x : Int) : Calls Try.prog 18 #[.pointer none, .string s, .int .i64 x] w fun e w' => e = .returned (.int .i64 1) ∧ Mod none_ w w' := by
  have ct := Lib.hid (fun W f => turn_nil W s x f)
  go_enter Try.func18, Try.ntmps18
  go_wp2_with fail
  refine (ct.out _ _).mono ?_
  rintro e w1 ⟨rfl, hm⟩
  dsimp only
  have m1 := Lib.hid (((Mod.refl none_ w).alloc (.cells #[.int .i64 x] 2)).then hm (fun _ _ h => h))
  clear hm
  go_wp2_with fail
  go_ret
  exact ⟨rfl, m1.out⟩
set_option maxRecDepth 100000 in
set_option maxHeartbeats 2000000 in
theorem does_nil (w : World) (k x : Int) (s : ByteArray) : Calls Try.prog 12 #[.pointer none, .agg #[.int .i64 k, .string s, .int .i64 x]] w fun e w' => e = .returned (.int .i64 1) ∧ Mod none_ w w' := by
  have ck := Lib.hid (fun W => kind_ok W k x s)
  obtain ⟨n, hn4, hkn, _⟩ := kind_num k
  rw [hkn] at ck
  have c0 := Lib.hid (fun W => open_nil W s x)
  have c1 := Lib.hid (fun W => give_nil W s x)
  have c2 := Lib.hid (fun W => aside_nil W s x)
  have c3 := Lib.hid (fun W => get_nil W s)
  have hn : n = 0 ∨ n = 1 ∨ n = 2 ∨ n = 3 := by omega
  replace hkn := Lib.hid hkn
  rcases hn with rfl | rfl | rfl | rfl
  all_goals
    go_enter Try.func12, Try.ntmps12
    go_wp2_with fail
    refine (ck.out _).mono ?_
    rintro e w1 ⟨rfl, hm⟩
    dsimp only
    have hm1 := Lib.hid (((Mod.refl none_ w).alloc (.cells #[.int .i64 k, .string s, .int .i64 x] 28)).then hm (fun _ _ h => h))
    have hb := (Blk.new w 28 #[.int .i64 k, .string s, .int .i64 x]).mod hm (fun h => h)
    have e1 : w1.cell? ⟨w.heap.size, 1, none⟩ = some (.string s) := hb.cell_ rfl
    have e2 : w1.cell? ⟨w.heap.size, 2, none⟩ = some (.int .i64 x) := hb.cell_ rfl
    clear hm hb
    go_wp2_with fail
    first
      | refine (c0.out _).mono ?_
      | refine (c1.out _).mono ?_
      | refine (c2.out _).mono ?_
      | refine (c3.out _).mono ?_
    rintro e w2 ⟨rfl, hm2⟩
    dsimp only [zeroA]
    have hm3 := Lib.hid (hm1.out.then hm2 (fun _ _ h => h))
    clear hm2
    go_wp2_with fail
    go_ret
    first
      | exact ⟨rfl, hm3.out⟩
      | exact ⟨rfl, hm3.out.alloc _⟩
set_option maxRecDepth 100000 in
set_option maxHeartbeats 2000000 in
theorem chartNil_walk (w : World) (k x : Int) (s : ByteArray) : Calls Try.prog 7 #[.agg #[.int .i64 k, .string s, .int .i64 x]] w fun e w' => e = .returned (.bool true) ∧ Below w.heap.size w w' := by
  have k0 := Lib.hid (fun W => lives_ok W)
  have k1 := Lib.hid (fun W => tot_nil W)
  have k2 := Lib.hid (fun W => does_nil W k x s)
  have k3 := Lib.hid (fun W => all_nil W)
  have k4 := Lib.hid (fun W => copy_nil W)
  go_enter Try.func7, Try.ntmps7
  go_wp2_with fail
  refine (k0.out _).mono ?_
  rintro e w1 ⟨rfl, hm⟩
  dsimp only
  have hb := (Blk.new w 28 #[.int .i64 k, .string s, .int .i64 x]).mod hm (fun h => h)
  have e0 : w1.cell? ⟨w.heap.size, 0, none⟩ = some (.int .i64 k) := hb.cell_ rfl
  have e1 : w1.cell? ⟨w.heap.size, 1, none⟩ = some (.string s) := hb.cell_ rfl
  have e2 : w1.cell? ⟨w.heap.size, 2, none⟩ = some (.int .i64 x) := hb.cell_ rfl
  have m1 := Lib.hid (((Mod.refl none_ w).alloc (.cells #[.int .i64 k, .string s, .int .i64 x] 28)).then hm (fun _ _ h => h))
  clear hm hb
  go_wp2_with fail
  refine (k1.out _).mono ?_
  rintro e w2 ⟨rfl, rfl⟩
  dsimp only
  go_wp2_with fail
  refine (k2.out _).mono ?_
  rintro e w2 ⟨rfl, hm2⟩
  dsimp only
  have m2 := Lib.hid (m1.out.then hm2 (fun _ _ h => h))
  clear hm2
  go_wp2_with fail
  refine (k3.out _).mono ?_
  rintro e w3 ⟨rfl, rfl⟩
  dsimp only
  go_wp2_with fail
  refine (k4.out _).mono ?_
  rintro e w3 ⟨rfl, rfl⟩
  dsimp only
  go_wp2_with fail
  go_ret
  exact ⟨rfl, m2.out.below0⟩
end Go.Proofs.Ytgljnlafjolfpaa
