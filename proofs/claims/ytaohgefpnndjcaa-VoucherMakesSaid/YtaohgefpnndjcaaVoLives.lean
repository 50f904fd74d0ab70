/-
  What every law of chapter 7 begins with.
-/
import Derived.Test.YtaohgefpnndjcaaVo2
import Derived.Test.YtaohgefpnndjcaaChOpen
namespace Go.Proofs.Ytaohgefpnndjcaa
set_option linter.unusedVariables false
open Go.RowKit
def v1_ : List Ac := [⟨[97], 0, 0, 9⟩]
def v2_ : List Ac := [⟨[97], 0, 0, 9⟩, ⟨[98], 0, 0, 0⟩]
def v3_ : List Ac := [⟨[97], 0, 0, 9⟩, ⟨[98], 0, 0, 0⟩, ⟨[99], 0, 0, 0⟩]
def v4_ : List Ac := [⟨[97], -5, 0, 9⟩, ⟨[98], 3, 0, 0⟩, ⟨[99], 2, 0, 0⟩]
def g3_ : List Lg := [⟨[97], -5⟩, ⟨[98], 3⟩, ⟨[99], 2⟩]
def g2_ : List Lg := [⟨[97], -5⟩, ⟨[98], 4⟩]
theorem vl1 : openR [] [97] 9 = (v1_, 0) := by decide +kernel
theorem vl2 : openR v1_ [98] 0 = (v2_, 0) := by decide +kernel
theorem vl3 : openR v2_ [99] 0 = (v3_, 0) := by decide +kernel
theorem vl4 : makeR v3_ g3_ = (v4_, 0) := by decide +kernel
theorem vl5 : checkR v4_ g2_ = 8 := by decide +kernel
theorem vok (C : List Ac) (h : C = v1_ ∨ C = v2_ ∨ C = v3_ ∨ C = v4_) : OkC C := by
  refine ⟨fun a ha => ?_, ?_⟩
  · rcases h with rfl | rfl | rfl | rfl
    all_goals
      simp only [v1_, v2_, v3_, v4_, List.mem_cons, List.not_mem_nil, or_false] at ha
    · subst ha; exact ⟨by unfold WfA I64; dsimp only; omega, by decide⟩
    · rcases ha with rfl | rfl
      all_goals exact ⟨by unfold WfA I64; dsimp only; omega, by decide⟩
    · rcases ha with rfl | rfl | rfl
      all_goals exact ⟨by unfold WfA I64; dsimp only; omega, by decide⟩
    · rcases ha with rfl | rfl | rfl
      all_goals exact ⟨by unfold WfA I64; dsimp only; omega, by decide⟩
  · rcases h with rfl | rfl | rfl | rfl <;> decide
theorem gok (ls : List Lg) (h : ls = g3_ ∨ ls = g2_) : ∀ l ∈ ls, LgOk l := by
  intro l hl
  rcases h with rfl | rfl
  · simp only [g3_, List.mem_cons, List.not_mem_nil, or_false] at hl
    rcases hl with rfl | rfl | rfl
    all_goals exact ⟨by decide, by unfold I64; dsimp only; omega⟩
  · simp only [g2_, List.mem_cons, List.not_mem_nil, or_false] at hl
    rcases hl with rfl | rfl
    all_goals exact ⟨by decide, by unfold I64; dsimp only; omega⟩
theorem rdl_g3 (w : World) (e : TypeId) : RdL (w.alloc (.cells #[.string ⟨#[97]⟩, .int .i64 (-5), .string ⟨#[98]⟩, .int .i64 3, .string ⟨#[99]⟩, .int .i64 2] e)) (some ⟨w.heap.size, 0, none⟩) 3 g3_ := rdn w e 2 3 w.heap.size #[.string ⟨#[97]⟩, .int .i64 (-5), .string ⟨#[98]⟩, .int .i64 3, .string ⟨#[99]⟩, .int .i64 2] (0, 0) rfl rfl
theorem rdl_g2 (w : World) (e : TypeId) : RdL (w.alloc (.cells #[.string ⟨#[97]⟩, .int .i64 (-5), .string ⟨#[98]⟩, .int .i64 4] e)) (some ⟨w.heap.size, 0, none⟩) 2 g2_ := rdn w e 2 2 w.heap.size #[.string ⟨#[97]⟩, .int .i64 (-5), .string ⟨#[98]⟩, .int .i64 4] (0, 0) rfl rfl
set_option maxRecDepth 100000 in
set_option maxHeartbeats 2000000 in
theorem lives_ok (w : World) : Calls Try.prog 9 #[] w fun e w' => e = .returned (.bool true) ∧ Mod none_ w w' := by
  have k0 := Lib.hid (new_ok w)
  have k1 := Lib.hid (fun W p b (h : ChAt W p b []) => by have := open_ok W p b [] ⟨#[97]⟩ 9 h (by decide) OkC.nil; rw [show (⟨#[97]⟩ : ByteArray).data.toList = [97] from rfl, vl1] at this; exact this)
  have k2 := Lib.hid (fun W p b (h : ChAt W p b v1_) => by have := open_ok W p b v1_ ⟨#[98]⟩ 0 h (by decide) (vok _ (.inl rfl)); rw [show (⟨#[98]⟩ : ByteArray).data.toList = [98] from rfl, vl2] at this; exact this)
  have k3 := Lib.hid (fun W p b (h : ChAt W p b v2_) => by have := open_ok W p b v2_ ⟨#[99]⟩ 0 h (by decide) (vok _ (.inr (.inl rfl))); rw [show (⟨#[99]⟩ : ByteArray).data.toList = [99] from rfl, vl3] at this; exact this)
  have k4 := Lib.hid (fun W p b A (h : ChAt W p b v3_) (hr : RdL W A 3 g3_) (hA : 0 < 3 → ∀ k, fp A k → ¬ k = b) => by have := make_ok W p b v3_ A 3 3 g3_ h (vok _ (.inr (.inr (.inl rfl)))) hr (by omega) (gok _ (.inl rfl)) hA; rw [vl4] at this; exact this)
  have k5 := Lib.hid (fun W p b A (h : ChAt W p b v4_) (hr : RdL W A 2 g2_) => by have := check_ok W p b v4_ A 2 2 g2_ h (vok _ (.inr (.inr (.inr rfl)))) hr (by omega) (gok _ (.inr rfl)); rw [vl5] at this; exact this)
  have k6 := Lib.hid (fun W p b (h : ChAt W p b v4_) => get_ok W p b v4_ ⟨#[97]⟩ h (by decide))
  rw [show getV v4_ (⟨#[97]⟩ : ByteArray).data.toList = (.agg #[.string (txt [97]), .int .i64 (-5), .int .i64 0, .int .i64 9], 0) from rfl] at k6
  go_enter Try.func9, Try.ntmps9
  go_wp2_with fail
  refine k0.out.mono ?_
  rintro e w0 ⟨p, b, rfl, hc, hm, hp, hb⟩
  dsimp only
  have hbl := hc.2.1.lt
  replace hc := Lib.hid hc
  replace hm := Lib.hid hm
  replace hp := Lib.hid hp
  replace hb := Lib.hid hb
  go_wp2_with fail
  refine (k1.out _ p b hc.out).mono ?_
  rintro e w1 ⟨rfl, hc1, hm1⟩
  dsimp only at hc1 ⊢
  have hmw1 := Lib.hid (hm.out.then hm1 (fun i hi he => by have := hb.out; have : i = b := he; omega))
  have hs1 := hm1.size
  replace hc1 := Lib.hid hc1
  replace hm1 := Lib.hid hm1
  go_wp2_with fail
  refine (k2.out _ p b hc1.out).mono ?_
  rintro e w2 ⟨rfl, hc2, hm2⟩
  dsimp only at hc2 ⊢
  have hmw2 := Lib.hid (hmw1.out.then hm2 (fun i hi he => by have := hb.out; have : i = b := he; omega))
  have hs2 := hm2.size
  replace hc2 := Lib.hid hc2
  replace hm2 := Lib.hid hm2
  go_wp2_with fail
  refine (k3.out _ p b hc2.out).mono ?_
  rintro e w3 ⟨rfl, hc3, hm3⟩
  dsimp only at hc3 ⊢
  have hmw3 := Lib.hid (hmw2.out.then hm3 (fun i hi he => by have := hb.out; have : i = b := he; omega))
  have hs3 := hm3.size
  replace hc3 := Lib.hid hc3
  replace hm3 := Lib.hid hm3
  go_wp2_with fail
  refine (k4.out _ p b (some ⟨w3.heap.size, 0, none⟩) (hc3.out.alloc _) (rdl_g3 _ _) (fun _ k hk he => by obtain ⟨a, ha, rfl⟩ := hk; injection ha with ha; subst ha; dsimp only at he; omega)).mono ?_
  rintro e w4 ⟨rfl, hc4, hm4⟩
  dsimp only at hc4 ⊢
  have hmw4 := Lib.hid ((hmw3.out.alloc (.cells #[.string ⟨#[97]⟩, .int .i64 (-5), .string ⟨#[98]⟩, .int .i64 3, .string ⟨#[99]⟩, .int .i64 2] 44)).then hm4 (fun i hi he => by have := hb.out; have : i = b := he; omega))
  replace hc4 := Lib.hid hc4
  clear hm4
  go_wp2_with fail
  refine (k5.out _ p b (some ⟨w4.heap.size, 0, none⟩) (hc4.out.alloc _) (rdl_g2 _ _)).mono ?_
  rintro e w5 ⟨rfl, hm5⟩
  dsimp only
  have hc5 := Lib.hid ((hc4.out.alloc (.cells #[.string ⟨#[97]⟩, .int .i64 (-5), .string ⟨#[98]⟩, .int .i64 4] 44)).mod0 hm5)
  have hmw5 := Lib.hid ((hmw4.out.alloc (.cells #[.string ⟨#[97]⟩, .int .i64 (-5), .string ⟨#[98]⟩, .int .i64 4] 44)).trans hm5)
  clear hm5
  go_wp2_with fail
  refine (k6.out _ p b hc5.out).mono ?_
  rintro e w6 ⟨rfl, hm6⟩
  dsimp only
  have hmw6 := Lib.hid (hmw5.out.trans hm6)
  clear hm6
  go_wp2_with fail
  go_ret
  exact ⟨rfl, hmw6.out.alloc _⟩
end Go.Proofs.Ytaohgefpnndjcaa
