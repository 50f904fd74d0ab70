/-
  A frame as it would be written, and as it stands in bytes. No condition.
-/
import Derived.Test.YtameeeblhllemaaScanL
namespace Go.Proofs.Ytameeeblhllemaa
theorem by_eq (n : Nat) (x : UInt8) (h : n % 256 = x.toNat) : by_ n = x := UInt8.toNat_inj.1 (by rw [by_toNat, h])
theorem body_length {r : List UInt8} (h : 6 + num r ≤ r.length) : (body r).length = num r := by unfold body; rw [List.length_take, List.length_drop]; omega
theorem take_split {r : List UInt8} (h : 6 + num r ≤ r.length) : r.take (6 + num r) = [r.getD 0 0, r.getD 1 0, r.getD 2 0, r.getD 3 0, r.getD 4 0, r.getD 5 0] ++ body r := by
  rw [List.take_add]
  unfold body
  congr 1
  match r, h with
  | a :: b :: c :: d :: e :: f :: t, _ => rfl
  | [], h => simp at h
  | [_], h => simp at h; omega
  | [_, _], h => simp at h; omega
  | [_, _, _], h => simp at h; omega
  | [_, _, _, _], h => simp at h; omega
  | [_, _, _, _, _], h => simp at h; omega
theorem frame_take {r : List UInt8} (h : 6 + num r ≤ r.length) : frameOf (body r) = r.take (6 + num r) ↔ crc (body r) = sumOf r := by
  rw [take_split h]
  have hb := body_length h
  have hq := crc_lt (body r)
  have l0 := (r.getD 0 0).toNat_lt
  have l1 := (r.getD 1 0).toNat_lt
  have l2 := (r.getD 2 0).toNat_lt
  have l3 := (r.getD 3 0).toNat_lt
  have l4 := (r.getD 4 0).toNat_lt
  have l5 := (r.getD 5 0).toNat_lt
  have hn : num r = (r.getD 0 0).toNat + 256 * (r.getD 1 0).toNat := rfl
  have hs : sumOf r = (r.getD 2 0).toNat + 256 * (r.getD 3 0).toNat + 65536 * (r.getD 4 0).toNat + 16777216 * (r.getD 5 0).toNat := rfl
  unfold frameOf
  constructor
  · intro he
    have he := List.append_cancel_right he
    unfold fhead at he
    simp only [List.cons.injEq, and_true] at he
    obtain ⟨_, _, e2, e3, e4, e5⟩ := he
    have f2 := congrArg UInt8.toNat e2
    have f3 := congrArg UInt8.toNat e3
    have f4 := congrArg UInt8.toNat e4
    have f5 := congrArg UInt8.toNat e5
    rw [by_toNat] at f2 f3 f4 f5
    omega
  · intro he
    congr 1
    unfold fhead
    rw [hb, by_eq (num r) (r.getD 0 0) (by omega), by_eq (num r / 256) (r.getD 1 0) (by omega), by_eq (crc (body r)) (r.getD 2 0) (by omega), by_eq (crc (body r) / 256) (r.getD 3 0) (by omega), by_eq (crc (body r) / 65536) (r.getD 4 0) (by omega), by_eq (crc (body r) / 16777216) (r.getD 5 0) (by omega)]
end Go.Proofs.Ytameeeblhllemaa
