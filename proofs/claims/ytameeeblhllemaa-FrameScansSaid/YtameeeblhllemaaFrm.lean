/-
  The contract of frame.Frame. No condition.
-/
import Derived.Test.YtameeeblhllemaaConcat
import Derived.Test.YtameeeblhllemaaMem2
namespace Go.Proofs.Ytameeeblhllemaa
open Go.RowKit

def by_ (n : Nat) : UInt8 := UInt8.ofNat n
theorem by_toNat (n : Nat) : (by_ n).toNat = n % 256 := by simp [by_]
/-- The head of a frame. -/
def fhead (l : List UInt8) : List UInt8 := [by_ l.length, by_ (l.length / 256), by_ (crc l), by_ (crc l / 256), by_ (crc l / 65536), by_ (crc l / 16777216)]
def frameOf (l : List UInt8) : List UInt8 := fhead l ++ l
theorem frameOf_length (l : List UInt8) : (frameOf l).length = 6 + l.length := by simp [frameOf, fhead]; omega
def fitsB (n : Nat) : Bool := decide (1 ≤ n ∧ n ≤ 4096)

theorem frame_no (w : World) (A : Option Addr) (n c : Nat) (hn : n < 1 ∨ 4096 < n) : Calls Try.prog 12 #[.slice A n c] w fun e w' => e = .returned (.tuple #[.slice none 0 0, .int .i64 1]) ∧ w = w' := by
  have H := Lib.hid (show (n : Int) < 1 ∨ 4096 < (n : Int) by omega)
  clear hn
  go_enter Try.func12, Try.ntmps12
  go_wp2_with (go_at_call 22; refine (fits_no _ _ H.out).mono ?_; rintro e w1 ⟨rfl, rfl⟩)
  go_ret2
  exact ⟨rfl, rfl⟩

set_option maxHeartbeats 1000000 in
theorem frame_yes (w : World) (A : Option Addr) (n c : Nat) (l : List UInt8) (h : RdB w A n l) (h1 : 1 ≤ n) (h2 : n ≤ 4096) : Calls Try.prog 12 #[.slice A n c] w fun e w' =>
    ∃ A' c', e = .returned (.tuple #[.slice A' (6 + n) c', .int .i64 0]) ∧ OwB w' 5 A' (6 + n) c' (frameOf l) ∧ Fresh w A' ∧ Mod none_ w w' := by
  have H := Lib.hid h
  have hl := Lib.hid h.len
  have hq := crc_lt l
  clear h
  go_enter Try.func12, Try.ntmps12
  go_wp2_with (first
    | (go_at_call 22; refine (fits_yes _ _ (by omega) (by omega)).mono ?_; rintro e w1 ⟨rfl, rfl⟩)
    | (go_at_call 16; refine (sum_ok _ A n c l H.out (by omega)).mono ?_; rintro e w1 ⟨rfl, hm1⟩; have Hm1 := Lib.hid hm1; clear hm1))
  have hhead : bvs (fhead l) = [.int .u8 ((n : Int) % 256), .int .u8 ((n : Int) / 256), .int .u8 ((crc l : Int) % 256), .int .u8 ((crc l : Int) / 256 % 256), .int .u8 ((crc l : Int) / 65536 % 256), .int .u8 ((crc l : Int) / 16777216)] := by
    have e := hl.out
    simp only [bvs, fhead, bv, List.map_cons, List.map_nil, by_toNat, e]
    have x1 : ((n / 256 % 256 : Nat) : Int) = (n : Int) / 256 := by omega
    have x2 : ((crc l / 16777216 % 256 : Nat) : Int) = (crc l : Int) / 16777216 := by omega
    rw [x1, x2]
    rfl
  have hh : ∀ w2, w2 = (w1.alloc (.cells #[.int .u8 ((n : Int) % 256), .int .u8 ((n : Int) / 256), .int .u8 ((crc l : Int) % 256), .int .u8 ((crc l : Int) / 256 % 256), .int .u8 ((crc l : Int) / 65536 % 256), .int .u8 ((crc l : Int) / 16777216)] 5)).alloc (.cells #[.slice (some ⟨w1.heap.size, 0, none⟩) 6 6, .slice A n c] 22) →
      Rd w2 1 (some ⟨w1.heap.size + 1, 0, none⟩) 2 [.slice (some ⟨w1.heap.size, 0, none⟩) 6 6, .slice A n c] ∧ RdB w2 (some ⟨w1.heap.size, 0, none⟩) 6 (fhead l) ∧ RdB w2 A n l ∧ Mod none_ w w2 := by
    rintro w2 rfl
    refine ⟨rdn (w1.alloc _) _ 1 2 _ _ (0, 0) (by simp) rfl, ?_, Rd.mod0 H.out ((Hm1.out.alloc _).alloc _), (Hm1.out.alloc _).alloc _⟩
    show Rd _ _ _ _ (bvs (fhead l))
    rw [hhead]
    exact Rd.alloc (rdn w1 _ 1 6 _ _ (0, 0) rfl rfl) _
  obtain ⟨g1, g2, g3, g4⟩ := hh _ rfl
  refine (concat2_ok _ (w1.heap.size + 1) (some ⟨w1.heap.size, 0, none⟩) A 6 n 6 c (fhead l) l g1 g2 g3 (by omega)).mono ?_
  rintro e w3 ⟨A3, c3, rfl, ho3, hf3, hm3⟩
  have hm4 := Lib.hid (g4.trans hm3)
  have hf4 := Lib.hid (Fresh.later hf3 g4.size)
  have ho4 := Lib.hid ho3
  clear hhead hh g1 g2 g3 g4 ho3 hf3 hm3
  go_wp2
  go_ret2
  exact ⟨A3, c3, rfl, ho4.out, hf4.out, hm4.out⟩
end Go.Proofs.Ytameeeblhllemaa
