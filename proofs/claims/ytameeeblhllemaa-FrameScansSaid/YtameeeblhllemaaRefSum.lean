/-
  The contract of the reference's Sum: bit by bit. No condition.
-/
import Derived.Test.YtameeeblhllemaaFLives
namespace Go.Proofs.Ytameeeblhllemaa
open Go.RowKit

theorem step1_odd {h : Nat} (ho : h % 2 = 1) : step1 h = (h / 2) ^^^ 3988292384 := by unfold step1; rw [if_pos ho]
theorem step1_ev {h : Nat} (ho : ¬ h % 2 = 1) : step1 h = h / 2 := by unfold step1; rw [if_neg ho, Nat.xor_zero]

theorem refsum_ok (w : World) (A : Option Addr) (n c : Nat) (l : List UInt8) (h : RdB w A n l) (hn : n ≤ 140737488351232) : Calls Try.prog 17 #[.slice A n c] w fun e w' => e = .returned (.int .u32 (crc l : Nat)) ∧ w = w' := by
  have hl := Lib.hid h.len
  have hr := Lib.hid h
  clear h
  go_enter Try.func17, Try.ntmps17
  go_wp2_with fail
  go_loop [3, 4] (fun h4 i => ∃ (j : Nat), h4 = .int .u32 (crcFold (l.take j) : Nat) ∧ i = .int .i64 j ∧ j ≤ n) (fun _ i => n - (intOf i).toNat)
  case atStart => exact ⟨0, rfl, rfl, by omega⟩
  case round =>
    obtain ⟨j, rfl, rfl, hj⟩ := hrel
    by_cases hlt : j < n
    · obtain ⟨g, o, rfl, hc⟩ := hr.out.form (by omega) (by omega)
      have hjl : j < l.length := by have := hl.out; omega
      have hcj := hc j _ (bvs_get hjl)
      have hsn : crcFold (l.take (j + 1)) = crcStep (crcFold (l.take j)) l[j] := by
        rw [← crcFold_snoc, List.take_add_one, List.getElem?_eq_getElem hjl]; rfl
      have hft := crcFold_lt (l.take j)
      clear hc
      generalize l[j] = b at *
      rw [crcStep_eq] at hsn
      replace hsn := Lib.hid hsn
      generalize crcFold (l.take j) = q at *
      have hbl := b.toNat_lt
      have hx := bx32 q b.toNat hft (by omega)
      have hxl : q ^^^ b.toNat < 4294967296 := Nat.xor_lt_two_pow (n := 32) hft (by omega)
      generalize q ^^^ b.toNat = X at *
      go_wp2_with fail
      go_loop [3, 5] (fun h4 i => ∃ (t : Nat), h4 = .int .u32 (stepN t X : Nat) ∧ i = .int .i64 t ∧ t ≤ 8) (fun _ i => 8 - (intOf i).toNat)
      case atStart => exact ⟨0, rfl, rfl, by omega⟩
      case round =>
        obtain ⟨t, rfl, rfl, ht⟩ := hrel
        have hH := stepN_lt t X hxl
        have hs : stepN (t + 1) X = step1 (stepN t X) := rfl
        by_cases q1 : t < 8
        · generalize stepN t X = H at *
          by_cases q2 : H % 2 = 1
          · rw [step1_odd q2] at hs
            have q3 : (H : Int) % 2 = 1 := by omega
            have q5 : (((H / 2 : Nat) : Int)) = (H : Int) / 2 := by omega
            have q4 : bits .xor .u32 ((H : Int) / 2) 3988292384 = ((H / 2 ^^^ 3988292384 : Nat) : Int) := by
              have := bx32 (H / 2) 3988292384 (by omega) (by omega)
              rw [q5] at this
              exact this
            replace hs := Lib.hid hs
            replace q5 := Lib.hid q5
            go_wp2
            go_round
            case rel => exact ⟨t + 1, by rw [hs.out], by go_num, by omega⟩
            case measure => simp [intOf]; omega
          · rw [step1_ev q2] at hs
            have q3 : ((H : Int) % 2 == 1) = false := by simp; omega
            have q5 : (((H / 2 : Nat) : Int)) = (H : Int) / 2 := by omega
            replace hs := Lib.hid hs
            replace q5 := Lib.hid q5
            replace q2 := Lib.hid q2
            go_wp2
            go_round
            case rel => exact ⟨t + 1, by rw [hs.out, q5.out], by go_num, by omega⟩
            case measure => simp [intOf]; omega
        · obtain rfl : t = 8 := by omega
          go_wp2
          go_round
          case rel => exact ⟨j + 1, by rw [hsn.out], by go_num, by omega⟩
          case measure => simp [intOf]; omega
    · have hjn : j = n := by omega
      have e : l.take j = l := List.take_of_length_le (by have := hl.out; omega)
      have hft := crcFold_lt (l.take j)
      rw [e] at hft ⊢
      clear e
      go_wp2
      go_ret
      refine ⟨ret_i ?_, rfl⟩
      unfold crc; omega
end Go.Proofs.Ytameeeblhllemaa
