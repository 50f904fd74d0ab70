/-
  The head of each statement over frames, 'lives', returns true. No condition.
-/
import Derived.Test.YtameeeblhllemaaScan
import Derived.Test.YtameeeblhllemaaScanL
import Derived.Test.YtameeeblhllemaaSame
import Derived.Lib.SlBytesConst
namespace Go.Proofs.Ytameeeblhllemaa
open Go.RowKit

set_option maxHeartbeats 1000000 in
theorem lives_ok (w : World) : Calls Try.prog 9 #[] w fun e w' => e = .returned (.bool true) ∧ Mod none_ w w' := by
  have kc := fun (w : World) (C : Array Value) (n c : Nat) => Lib.run_convert_bytes_const (P := Try.prog) w 22 5 C n c Try.underlying22 Try.underlying5
  go_enter Try.func9, Try.ntmps9
  go_wp2_with fail
  have hr : ∀ w3, w3 = ((w.alloc (.cells #[.int .u8 1, .int .u8 2] 5)).alloc (.cells #[.int .u8 3] 5)).alloc (.cells #[.slice (some ⟨w.heap.size, 0, none⟩) 2 2, .slice (some ⟨w.heap.size + 1, 0, none⟩) 1 1] 22) →
      RdL w3 (some ⟨w.heap.size + 1 + 1, 0, none⟩) 2 [⟨some ⟨w.heap.size, 0, none⟩, 2, 2⟩, ⟨some ⟨w.heap.size + 1, 0, none⟩, 1, 1⟩] [[1, 2], [3]] ∧ Mod none_ w w3 := by
    rintro w3 rfl
    refine ⟨⟨rdn ((w.alloc _).alloc _) _ 1 2 _ _ (0, 0) (by simp) rfl, rfl, fun i s l hs hl => ?_⟩, (((Mod.refl _ w).alloc _).alloc _).alloc _⟩
    match i with
    | 0 => cases hs; cases hl; exact ⟨Rd.alloc (Rd.alloc (rdn w _ 1 2 _ _ (0, 0) rfl rfl) _) _, by show 2 ≤ 2; omega, by show 2 ≤ 9223372036854775807; omega⟩
    | 1 => cases hs; cases hl; exact ⟨Rd.alloc (rdn (w.alloc _) _ 1 1 _ _ (0, 0) (by simp) rfl) _, by show 1 ≤ 1; omega, by show 1 ≤ 9223372036854775807; omega⟩
    | i + 2 => simp at hs
  obtain ⟨hr1, hm1⟩ := hr _ rfl
  replace hm1 := Lib.hid hm1
  clear hr
  refine (wrap_ok _ _ _ _ _ _ hr1 (by omega)).mono ?_
  have hok : ∀ l ∈ ([[1, 2], [3]] : List (List UInt8)), okL l := by
    intro l hl
    simp at hl
    rcases hl with rfl | rfl <;> exact ⟨by decide, by decide⟩
  rintro e w2 ⟨hm2, h2⟩
  rcases h2 with ⟨_, A2, n2, c2, rfl, ho2, hf2, hn2⟩ | ⟨⟨l, hl, hno⟩, _⟩
  case inr => exact absurd (hok l hl) hno
  have hn2' : n2 = 15 := by rw [← ho2.len]; rfl
  subst hn2'
  have hsc := scan_flat0 _ hok
  have h15 : (List.flatMap frameOf ([[1, 2], [3]] : List (List UInt8))).length = 15 := rfl
  rw [h15] at hsc
  generalize List.flatMap frameOf ([[1, 2], [3]] : List (List UInt8)) = bb at ho2 hsc
  have hm3 := Lib.hid (hm1.out.trans hm2)
  clear hm1 hm2 hf2 hn2 hr1 h15 hok
  have hcap : 15 ≤ c2 ∧ c2 ≤ 9223372036854775807 := ⟨ho2.2.1, ho2.2.2.1⟩
  have hrd := Lib.hid (show RdB w2 A2 15 bb from ho2.rd)
  clear ho2
  go_wp2_with fail
  refine (scan_ok _ _ _ _ bb (by exact hrd.out) hcap.1 hcap.2 (by omega)).mono ?_
  rintro e w4 ⟨LA, n4, c4, ss, rfl, hL, _, hm4⟩
  rw [hsc] at hL ⊢
  have h4 : n4 = 2 := by rw [← hL.len]; rfl
  subst h4
  have hm5 := Lib.hid (hm3.out.trans hm4)
  clear hm3 hm4 hL hsc hrd
  go_wp2_with fail
  have h9 : RdB (w4.alloc (.cells #[.int .u8 49, .int .u8 50, .int .u8 51, .int .u8 52, .int .u8 53, .int .u8 54, .int .u8 55, .int .u8 56, .int .u8 57] 5 (9, 10))) (some ⟨w4.heap.size, 0, none⟩) 9 [49, 50, 51, 52, 53, 54, 55, 56, 57] := rdn w4 _ 1 9 _ _ (9, 10) rfl rfl
  refine (sum_ok _ _ 9 9 _ h9 (by omega)).mono ?_
  rintro e w5 ⟨rfl, hm6⟩
  rw [crc_nine]
  have hm7 := Lib.hid ((hm5.out.alloc _).trans hm6)
  clear h9 hm6 hm5
  go_wp2
  go_ret
  exact ⟨rfl, hm7.out⟩
end Go.Proofs.Ytameeeblhllemaa
