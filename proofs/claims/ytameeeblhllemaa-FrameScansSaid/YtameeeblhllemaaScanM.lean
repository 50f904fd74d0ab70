/-
  Frames, as a function on lists: what is scanned of bytes. No condition.
-/
import Derived.Test.YtameeeblhllemaaFrm
namespace Go.Proofs.Ytameeeblhllemaa
def num (l : List UInt8) : Nat := (l.getD 0 0).toNat + 256 * (l.getD 1 0).toNat
def sumOf (l : List UInt8) : Nat := (l.getD 2 0).toNat + 256 * (l.getD 3 0).toNat + 65536 * (l.getD 4 0).toNat + 16777216 * (l.getD 5 0).toNat
def body (l : List UInt8) : List UInt8 := (l.drop 6).take (num l)
/-- Why no frame stands at the head of bytes that are not none; 0: one does. -/
def stopE (l : List UInt8) : Nat :=
  if l.length < 2 then 4 else if num l < 1 ∨ 4096 < num l then 3 else if l.length < 6 + num l then 4 else if crc (body l) ≠ sumOf l then 3 else 0
def scanF : Nat → List UInt8 → List (List UInt8) × Nat × Nat
  | 0, _ => ([], 0, 0)
  | f + 1, l =>
    if l.length = 0 then ([], 0, 0)
    else if stopE l ≠ 0 then ([], 0, stopE l)
    else (body l :: (scanF f (l.drop (6 + num l))).1, 6 + num l + (scanF f (l.drop (6 + num l))).2.1, (scanF f (l.drop (6 + num l))).2.2)
theorem scanF_fuel : ∀ (f g : Nat) (l : List UInt8), l.length < f → l.length < g → scanF f l = scanF g l := by
  intro f
  induction f with
  | zero => intro g l h; omega
  | succ f ih =>
    intro g l hf hg
    cases g with
    | zero => omega
    | succ g =>
      simp only [scanF]
      by_cases h0 : l.length = 0
      · rw [if_pos h0, if_pos h0]
      · rw [if_neg h0, if_neg h0]
        by_cases h1 : stopE l ≠ 0
        · rw [if_pos h1, if_pos h1]
        · rw [if_neg h1, if_neg h1]
          have e := ih g (l.drop (6 + num l)) (by rw [List.length_drop]; omega) (by rw [List.length_drop]; omega)
          rw [e]
def scan (l : List UInt8) : List (List UInt8) × Nat × Nat := scanF (l.length + 1) l
theorem scan_nil (l : List UInt8) (h : l.length = 0) : scan l = ([], 0, 0) := by
  unfold scan; simp only [scanF]; rw [if_pos h]
theorem scan_stop (l : List UInt8) (h : 0 < l.length) (hs : stopE l ≠ 0) : scan l = ([], 0, stopE l) := by
  unfold scan; simp only [scanF]; rw [if_neg (by omega), if_pos hs]
theorem scan_go (l : List UInt8) (h : 0 < l.length) (hs : stopE l = 0) : scan l = (body l :: (scan (l.drop (6 + num l))).1, 6 + num l + (scan (l.drop (6 + num l))).2.1, (scan (l.drop (6 + num l))).2.2) := by
  have e : scanF l.length (l.drop (6 + num l)) = scan (l.drop (6 + num l)) := scanF_fuel _ _ _ (by rw [List.length_drop]; omega) (by omega)
  conv => lhs; unfold scan; simp only [scanF]
  rw [if_neg (by omega), if_neg (by omega), e]
/-- After k bytes, with the frames L: what is to come completes what is scanned of all. -/
def ScanAt (b : List UInt8) (k : Nat) (L : List (List UInt8)) : Prop :=
  scan b = (L ++ (scan (b.drop k)).1, k + (scan (b.drop k)).2.1, (scan (b.drop k)).2.2)
theorem ScanAt.zero (b : List UInt8) : ScanAt b 0 [] := by unfold ScanAt; simp
theorem ScanAt.go {b : List UInt8} {k : Nat} {L : List (List UInt8)} (h : ScanAt b k L) (hk : k < b.length) (hs : stopE (b.drop k) = 0) : ScanAt b (k + (6 + num (b.drop k))) (L ++ [body (b.drop k)]) := by
  unfold ScanAt at h ⊢
  rw [h, scan_go (b.drop k) (by rw [List.length_drop]; omega) hs, List.drop_drop]
  simp only [List.append_assoc, List.singleton_append, Nat.add_assoc]
theorem ScanAt.stop {b : List UInt8} {k : Nat} {L : List (List UInt8)} (h : ScanAt b k L) (hk : k < b.length) (hs : stopE (b.drop k) ≠ 0) : scan b = (L, k, stopE (b.drop k)) := by
  unfold ScanAt at h
  rw [h, scan_stop (b.drop k) (by rw [List.length_drop]; omega) hs]
  simp
theorem ScanAt.done {b : List UInt8} {k : Nat} {L : List (List UInt8)} (h : ScanAt b k L) (hk : b.length ≤ k) : scan b = (L, k, 0) := by
  unfold ScanAt at h
  rw [h, scan_nil (b.drop k) (by rw [List.length_drop]; omega)]
  simp
theorem stop_short {l : List UInt8} (h : l.length < 2) : stopE l = 4 := by unfold stopE; rw [if_pos h]
theorem stop_num {l : List UInt8} (h : ¬ l.length < 2) (h1 : num l < 1 ∨ 4096 < num l) : stopE l = 3 := by unfold stopE; rw [if_neg h, if_pos h1]
theorem stop_torn {l : List UInt8} (h : ¬ l.length < 2) (h1 : ¬ (num l < 1 ∨ 4096 < num l)) (h2 : l.length < 6 + num l) : stopE l = 4 := by unfold stopE; rw [if_neg h, if_neg h1, if_pos h2]
theorem stop_sum {l : List UInt8} (h : ¬ l.length < 2) (h1 : ¬ (num l < 1 ∨ 4096 < num l)) (h2 : ¬ l.length < 6 + num l) (h3 : crc (body l) ≠ sumOf l) : stopE l = 3 := by unfold stopE; rw [if_neg h, if_neg h1, if_neg h2, if_pos h3]
theorem stop_no {l : List UInt8} (h : ¬ l.length < 2) (h1 : ¬ (num l < 1 ∨ 4096 < num l)) (h2 : ¬ l.length < 6 + num l) (h3 : crc (body l) = sumOf l) : stopE l = 0 := by unfold stopE; rw [if_neg h, if_neg h1, if_neg h2, if_neg (by simpa using h3)]
end Go.Proofs.Ytameeeblhllemaa
