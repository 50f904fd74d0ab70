import Derived.Test.YtdnbclhidpkpgaaGreatKp10
import Derived.Test.YtdnbclhidpkpgaaGreatKp1
import Derived.Test.YtdnbclhidpkpgaaGreatRows
import Derived.Deep.RegionLaw
import Derived.Deep.DeepCutAuto
/-
  The contract of frame.Frame. No condition.
-/
namespace Go.Proofs.YtdnbclhidpkpgaaGreat
set_option linter.unusedVariables false
set_option linter.unusedSimpArgs false
open Go.RowKit

/-- The head of a frame. -/
def fhead (l : List UInt8) : List UInt8 := [by_ l.length, by_ (l.length / 256), by_ (crc l), by_ (crc l / 256), by_ (crc l / 65536), by_ (crc l / 16777216)]
def frameOf (l : List UInt8) : List UInt8 := fhead l ++ l
theorem frameOf_length (l : List UInt8) : (frameOf l).length = 6 + l.length := by simp [frameOf, fhead]; omega
def fitsB (n : Nat) : Bool := decide (1 ≤ n ∧ n ≤ 4096)

theorem frame_no (w : World) (A : Option Addr) (n c : Nat) (hn : n < 1 ∨ 4096 < n) : Calls Tryz.prog 43 #[.slice A n c] w fun e w' => e = .returned (.tuple #[.slice none 0 0, .int .i64 1]) ∧ w = w' := by
  have H := Lib.hid (show (n : Int) < 1 ∨ 4096 < (n : Int) by omega)
  clear hn
  go_enter Tryz.func43, Tryz.ntmps43
  go_wp2_with (go_at_call 77; refine (fits_no _ _ H.out).mono ?_; rintro e w1 ⟨rfl, rfl⟩)
  go_ret2
  exact ⟨rfl, rfl⟩

set_option maxHeartbeats 1000000 in
theorem frame_yes (w : World) (A : Option Addr) (n c : Nat) (l : List UInt8) (h : RdB w A n l) (h1 : 1 ≤ n) (h2 : n ≤ 4096) : Calls Tryz.prog 43 #[.slice A n c] w fun e w' =>
    ∃ A' c', e = .returned (.tuple #[.slice A' (6 + n) c', .int .i64 0]) ∧ OwB w' 5 A' (6 + n) c' (frameOf l) ∧ Fresh w A' ∧ Mod none_ w w' := by
  have H := Lib.hid h
  have hl := Lib.hid h.len
  have hq := crc_lt l
  clear h
  go_enter Tryz.func43, Tryz.ntmps43
  go_wp2_with (first
    | (go_at_call 77; refine (fits_yes _ _ (by omega) (by omega)).mono ?_; rintro e w1 ⟨rfl, rfl⟩)
    | (go_at_call 78; refine (sum_ok _ A n c l H.out (by omega)).mono ?_; rintro e w1 ⟨rfl, hm1⟩; have Hm1 := Lib.hid hm1; clear hm1))
  have hhead : bvs (fhead l) = [.int .u8 ((n : Int) % 256), .int .u8 ((n : Int) / 256), .int .u8 ((crc l : Int) % 256), .int .u8 ((crc l : Int) / 256 % 256), .int .u8 ((crc l : Int) / 65536 % 256), .int .u8 ((crc l : Int) / 16777216)] := by
    have e := hl.out
    simp only [bvs, fhead, bv, List.map_cons, List.map_nil, by_toNat, e]
    have x1 : ((n / 256 % 256 : Nat) : Int) = (n : Int) / 256 := by omega
    have x2 : ((crc l / 16777216 % 256 : Nat) : Int) = (crc l : Int) / 16777216 := by omega
    rw [x1, x2]
    rfl
  have hh : ∀ w2, w2 = (w1.alloc (.cells #[.int .u8 ((n : Int) % 256), .int .u8 ((n : Int) / 256), .int .u8 ((crc l : Int) % 256), .int .u8 ((crc l : Int) / 256 % 256), .int .u8 ((crc l : Int) / 65536 % 256), .int .u8 ((crc l : Int) / 16777216)] 5)).alloc (.cells #[.slice (some ⟨w1.heap.size, 0, none⟩) 6 6, .slice A n c] 22) →
      Rd w2 1 (some ⟨w1.heap.size + 1, 0, none⟩) 2 [.slice (some ⟨w1.heap.size, 0, none⟩) 6 6, .slice A n c] ∧ RdB w2 (some ⟨w1.heap.size, 0, none⟩) 6 (fhead l) ∧ RdB w2 A n l ∧ Mod none_ w w2 := by
    rintro w2 rfl
    refine ⟨rdn (w1.alloc _) _ 1 2 _ _ (0, 0) (by simp) rfl, ?_, Rd.mod0 H.out ((Hm1.out.alloc _).alloc _), (Hm1.out.alloc _).alloc _⟩
    show Rd _ _ _ _ (bvs (fhead l))
    rw [hhead]
    exact Rd.alloc (rdn w1 _ 1 6 _ _ (0, 0) rfl rfl) _
  obtain ⟨g1, g2, g3, g4⟩ := hh _ rfl
  refine (concat2_ok _ (w1.heap.size + 1) (some ⟨w1.heap.size, 0, none⟩) A 6 n 6 c (fhead l) l g1 g2 g3 (by omega)).mono ?_
  rintro e w3 ⟨A3, c3, rfl, ho3, hf3, hm3⟩
  have hm4 := Lib.hid (g4.trans hm3)
  have hf4 := Lib.hid (Fresh.later hf3 g4.size)
  have ho4 := Lib.hid ho3
  clear hhead hh g1 g2 g3 g4 ho3 hf3 hm3
  go_wp2
  go_ret2
  exact ⟨A3, c3, rfl, ho4.out, hf4.out, hm4.out⟩
end Go.Proofs.YtdnbclhidpkpgaaGreat
/-
  Frames, as a function on lists: what is scanned of bytes. No condition.
-/
namespace Go.Proofs.YtdnbclhidpkpgaaGreat
set_option linter.unusedVariables false
set_option linter.unusedSimpArgs false
def num (l : List UInt8) : Nat := (l.getD 0 0).toNat + 256 * (l.getD 1 0).toNat
def sumOf (l : List UInt8) : Nat := (l.getD 2 0).toNat + 256 * (l.getD 3 0).toNat + 65536 * (l.getD 4 0).toNat + 16777216 * (l.getD 5 0).toNat
def body (l : List UInt8) : List UInt8 := (l.drop 6).take (num l)
/-- Why no frame stands at the head of bytes that are not none; 0: one does. -/
def stopE (l : List UInt8) : Nat :=
  if l.length < 2 then 4 else if num l < 1 ∨ 4096 < num l then 3 else if l.length < 6 + num l then 4 else if crc (body l) ≠ sumOf l then 3 else 0
def scanF : Nat → List UInt8 → List (List UInt8) × Nat × Nat
  | 0, _ => ([], 0, 0)
  | f + 1, l =>
    if l.length = 0 then ([], 0, 0)
    else if stopE l ≠ 0 then ([], 0, stopE l)
    else (body l :: (scanF f (l.drop (6 + num l))).1, 6 + num l + (scanF f (l.drop (6 + num l))).2.1, (scanF f (l.drop (6 + num l))).2.2)
theorem scanF_fuel : ∀ (f g : Nat) (l : List UInt8), l.length < f → l.length < g → scanF f l = scanF g l := by
  intro f
  induction f with
  | zero => intro g l h; omega
  | succ f ih =>
    intro g l hf hg
    cases g with
    | zero => omega
    | succ g =>
      simp only [scanF]
      by_cases h0 : l.length = 0
      · rw [if_pos h0, if_pos h0]
      · rw [if_neg h0, if_neg h0]
        by_cases h1 : stopE l ≠ 0
        · rw [if_pos h1, if_pos h1]
        · rw [if_neg h1, if_neg h1]
          have e := ih g (l.drop (6 + num l)) (by rw [List.length_drop]; omega) (by rw [List.length_drop]; omega)
          rw [e]
def scan (l : List UInt8) : List (List UInt8) × Nat × Nat := scanF (l.length + 1) l
theorem scan_nil (l : List UInt8) (h : l.length = 0) : scan l = ([], 0, 0) := by
  unfold scan; simp only [scanF]; rw [if_pos h]
theorem scan_stop (l : List UInt8) (h : 0 < l.length) (hs : stopE l ≠ 0) : scan l = ([], 0, stopE l) := by
  unfold scan; simp only [scanF]; rw [if_neg (by omega), if_pos hs]
theorem scan_go (l : List UInt8) (h : 0 < l.length) (hs : stopE l = 0) : scan l = (body l :: (scan (l.drop (6 + num l))).1, 6 + num l + (scan (l.drop (6 + num l))).2.1, (scan (l.drop (6 + num l))).2.2) := by
  have e : scanF l.length (l.drop (6 + num l)) = scan (l.drop (6 + num l)) := scanF_fuel _ _ _ (by rw [List.length_drop]; omega) (by omega)
  conv => lhs; unfold scan; simp only [scanF]
  rw [if_neg (by omega), if_neg (by omega), e]
/-- After k bytes, with the frames L: what is to come completes what is scanned of all. -/
def ScanAt (b : List UInt8) (k : Nat) (L : List (List UInt8)) : Prop :=
  scan b = (L ++ (scan (b.drop k)).1, k + (scan (b.drop k)).2.1, (scan (b.drop k)).2.2)
theorem ScanAt.zero (b : List UInt8) : ScanAt b 0 [] := by unfold ScanAt; simp
theorem ScanAt.go {b : List UInt8} {k : Nat} {L : List (List UInt8)} (h : ScanAt b k L) (hk : k < b.length) (hs : stopE (b.drop k) = 0) : ScanAt b (k + (6 + num (b.drop k))) (L ++ [body (b.drop k)]) := by
  unfold ScanAt at h ⊢
  rw [h, scan_go (b.drop k) (by rw [List.length_drop]; omega) hs, List.drop_drop]
  simp only [List.append_assoc, List.singleton_append, Nat.add_assoc]
theorem ScanAt.stop {b : List UInt8} {k : Nat} {L : List (List UInt8)} (h : ScanAt b k L) (hk : k < b.length) (hs : stopE (b.drop k) ≠ 0) : scan b = (L, k, stopE (b.drop k)) := by
  unfold ScanAt at h
  rw [h, scan_stop (b.drop k) (by rw [List.length_drop]; omega) hs]
  simp
theorem ScanAt.done {b : List UInt8} {k : Nat} {L : List (List UInt8)} (h : ScanAt b k L) (hk : b.length ≤ k) : scan b = (L, k, 0) := by
  unfold ScanAt at h
  rw [h, scan_nil (b.drop k) (by rw [List.length_drop]; omega)]
  simp
theorem stop_short {l : List UInt8} (h : l.length < 2) : stopE l = 4 := by unfold stopE; rw [if_pos h]
theorem stop_num {l : List UInt8} (h : ¬ l.length < 2) (h1 : num l < 1 ∨ 4096 < num l) : stopE l = 3 := by unfold stopE; rw [if_neg h, if_pos h1]
theorem stop_torn {l : List UInt8} (h : ¬ l.length < 2) (h1 : ¬ (num l < 1 ∨ 4096 < num l)) (h2 : l.length < 6 + num l) : stopE l = 4 := by unfold stopE; rw [if_neg h, if_neg h1, if_pos h2]
theorem stop_sum {l : List UInt8} (h : ¬ l.length < 2) (h1 : ¬ (num l < 1 ∨ 4096 < num l)) (h2 : ¬ l.length < 6 + num l) (h3 : crc (body l) ≠ sumOf l) : stopE l = 3 := by unfold stopE; rw [if_neg h, if_neg h1, if_neg h2, if_pos h3]
theorem stop_no {l : List UInt8} (h : ¬ l.length < 2) (h1 : ¬ (num l < 1 ∨ 4096 < num l)) (h2 : ¬ l.length < 6 + num l) (h3 : crc (body l) = sumOf l) : stopE l = 0 := by unfold stopE; rw [if_neg h, if_neg h1, if_neg h2, if_neg (by simpa using h3)]
end Go.Proofs.YtdnbclhidpkpgaaGreat
/-
  A list of texts of bytes in memory of the call's own. No condition.
-/
namespace Go.Proofs.YtdnbclhidpkpgaaGreat
set_option linter.unusedVariables false
set_option linter.unusedSimpArgs false
open Go.RowKit

def Txt1 (w : World) (LA : Option Addr) (s : SV) (l : List UInt8) : Prop :=
  RdB w s.a s.n l ∧ s.n ≤ s.c ∧ s.c ≤ 9223372036854775807 ∧ (0 < s.n → ∀ k, fp s.a k → k < w.heap.size ∧ ¬ fp LA k)
def Lst (w : World) (LA : Option Addr) (n c : Nat) (ss : List SV) (ls : List (List UInt8)) : Prop :=
  Ow w 22 1 LA n c (ss.map SV.v) ∧ ss.length = ls.length ∧ ∀ (i : Nat) (s : SV) (l : List UInt8), ss[i]? = some s → ls[i]? = some l → Txt1 w LA s l
section
variable {w w' : World} {LA : Option Addr} {n c : Nat} {ss : List SV} {ls : List (List UInt8)}
theorem Lst.nil (w : World) : Lst w none 0 0 [] [] := ⟨Ow.nil _ _ _, rfl, fun i s l hs _ => by simp at hs⟩
theorem Lst.len (h : Lst w LA n c ss ls) : ls.length = n := by
  have := h.1.1
  rw [List.length_map] at this
  rw [← h.2.1]; omega
theorem Txt1.mod {F : Nat → Prop} {s : SV} {l : List UInt8} (h : Txt1 w LA s l) (hm : Mod F w w') (hF : 0 < s.n → ∀ k, fp s.a k → ¬ F k) : Txt1 w' LA s l :=
  ⟨h.1.mod' hm hF, h.2.1, h.2.2.1, fun h0 k hk => ⟨Nat.lt_of_lt_of_le (h.2.2.2 h0 k hk).1 hm.size, (h.2.2.2 h0 k hk).2⟩⟩
theorem Lst.mod0 (h : Lst w LA n c ss ls) (hm : Mod none_ w w') : Lst w' LA n c ss ls :=
  ⟨h.1.mod0 hm, h.2.1, fun i s l hs hl => (h.2.2 i s l hs hl).mod hm fun _ _ _ hf => hf⟩
theorem Lst.push (h : Lst w LA n c ss ls) {s : SV} {l : List UInt8} (h1 : Txt1 w LA s l) {w1 : World} {LA' : Option Addr} {c' : Nat} (hown : Ow w1 22 1 LA' (n + 1) c' (ss.map SV.v ++ [s.v]))
    (hm : Mod (fp LA) w w1) (hA : LA' = LA ∨ ∃ g, LA' = some ⟨g, 0, none⟩ ∧ w.heap.size ≤ g) : Lst w1 LA' (n + 1) c' (ss ++ [s]) (ls ++ [l]) := by
  have key : ∀ s l, Txt1 w LA s l → Txt1 w1 LA' s l := by
    intro s l ht
    refine ⟨ht.1.mod' hm fun h0 k hk hf => (ht.2.2.2 h0 k hk).2 hf, ht.2.1, ht.2.2.1, fun h0 k hk => ?_⟩
    obtain ⟨q1, q2⟩ := ht.2.2.2 h0 k hk
    refine ⟨Nat.lt_of_lt_of_le q1 hm.size, ?_⟩
    rcases hA with rfl | ⟨g, rfl, hg⟩
    · exact q2
    · rintro ⟨a, ha, rfl⟩
      cases ha
      simp only at q1
      omega
  refine ⟨by simpa using hown, by simp [h.2.1], fun i s' l' hs hl => ?_⟩
  by_cases hi : i < ss.length
  · rw [List.getElem?_append_left hi] at hs
    rw [List.getElem?_append_left (by rw [← h.2.1]; exact hi)] at hl
    exact key _ _ (h.2.2 i s' l' hs hl)
  · rw [List.getElem?_append_right (by omega)] at hs
    rw [List.getElem?_append_right (by rw [← h.2.1]; omega), ← h.2.1] at hl
    have e : i - ss.length = 0 := by
      rcases Nat.lt_or_ge (i - ss.length) 1 with h5 | h5
      · omega
      · rw [List.getElem?_eq_none (by simpa using h5)] at hs; cases hs
    rw [e] at hs hl
    simp at hs hl
    subst hs hl
    exact key _ _ h1

/-- A list of texts, read only. -/
def RdLb (w : World) (A : Option Addr) (n : Nat) (ss : List SV) (ls : List (List UInt8)) : Prop :=
  Rd w 1 A n (ss.map SV.v) ∧ ss.length = ls.length ∧ ∀ (i : Nat) (s : SV) (l : List UInt8), ss[i]? = some s → ls[i]? = some l → RdB w s.a s.n l ∧ s.n ≤ s.c ∧ s.c ≤ 9223372036854775807
theorem Lst.rdl (h : Lst w LA n c ss ls) : RdLb w LA n ss ls :=
  ⟨h.1.rd, h.2.1, fun i s l hs hl => ⟨(h.2.2 i s l hs hl).1, (h.2.2 i s l hs hl).2.1, (h.2.2 i s l hs hl).2.2.1⟩⟩
theorem RdLb.mod0 (h : RdLb w LA n ss ls) (hm : Mod none_ w w') : RdLb w' LA n ss ls :=
  ⟨h.1.mod0 hm, h.2.1, fun i s l hs hl => ⟨Rd.mod0 (h.2.2 i s l hs hl).1 hm, (h.2.2 i s l hs hl).2⟩⟩
theorem RdLb.take_ (h : RdLb w LA n ss ls) {j : Nat} (hj : j ≤ n) : RdLb w LA j (ss.take j) (ls.take j) := by
  refine ⟨?_, by simp [h.2.1], fun i s l hs hl => ?_⟩
  · have := Rd.take_ h.1 hj
    rwa [Nat.mul_one, ← List.map_take] at this
  · rw [List.getElem?_take] at hs hl
    split at hs
    · rename_i hi
      rw [if_pos hi] at hl
      exact h.2.2 i s l hs hl
    · cases hs
theorem RdLb.app {A : Option Addr} {m : Nat} {ts : List SV} {ks : List (List UInt8)} {B : Option Addr} (h : RdLb w LA n ss ls) (k : RdLb w B m ts ks) {N : Nat} (hr : Rd w 1 A N ((ss ++ ts).map SV.v)) : RdLb w A N (ss ++ ts) (ls ++ ks) := by
  refine ⟨hr, by simp [h.2.1, k.2.1], fun i s l hs hl => ?_⟩
  rcases Nat.lt_or_ge i ss.length with hi | hi
  · rw [List.getElem?_append_left hi] at hs
    rw [List.getElem?_append_left (by rw [← h.2.1]; exact hi)] at hl
    exact h.2.2 i s l hs hl
  · rw [List.getElem?_append_right hi] at hs
    rw [List.getElem?_append_right (by rw [← h.2.1]; exact hi), ← h.2.1] at hl
    exact k.2.2 _ s l hs hl
theorem RdLb.len (h : RdLb w LA n ss ls) : ls.length = n := by
  have := h.1.1
  rw [List.length_map] at this
  rw [← h.2.1]; omega
theorem RdLb.at_ (h : RdLb w LA n ss ls) {j : Nat} (hj : j < n) : ∃ b o s l, LA = some ⟨b, o, none⟩ ∧ ss[j]? = some s ∧ ls[j]? = some l ∧ w.cell? ⟨b, o + j, none⟩ = some (.slice s.a s.n s.c) ∧ RdB w s.a s.n l ∧ s.n ≤ s.c ∧ s.c ≤ 9223372036854775807 := by
  obtain ⟨b, o, rfl, hc⟩ := h.1.form (by omega) (by omega)
  have hl := h.len
  have h1 : j < ss.length := by rw [h.2.1, hl]; exact hj
  have h2 : j < ls.length := by rw [hl]; exact hj
  have h3 := hc j ss[j].v (by simp [h1])
  obtain ⟨q1, q2, q3⟩ := h.2.2 j _ _ (List.getElem?_eq_getElem h1) (List.getElem?_eq_getElem h2)
  exact ⟨b, o, ss[j], ls[j], rfl, List.getElem?_eq_getElem h1, List.getElem?_eq_getElem h2, h3, q1, q2, q3⟩
end
theorem slinfo : (Tryz.prog.info? 22).map (fun i => (i.zero, i.size, i.bytes)) = some (some (.slice none 0 0), 1, 24) := by kernel_rfl
end Go.Proofs.YtdnbclhidpkpgaaGreat
/-
  Contracts of frame.Wrap and of the statements' own 'early', 'few'. No condition.
-/
namespace Go.Proofs.YtdnbclhidpkpgaaGreat
set_option linter.unusedVariables false
set_option linter.unusedSimpArgs false
open Go.RowKit



set_option maxHeartbeats 1000000 in

/-- Many frames. -/
def okL (l : List UInt8) : Prop := 1 ≤ l.length ∧ l.length ≤ 4096
def wrapN (ls : List (List UInt8)) (j : Nat) : List UInt8 := (ls.take j).flatMap frameOf
def WrapRel (w : World) (ls : List (List UInt8)) (j : Nat) (v : Value) (wr : World) : Prop :=
  ∃ A n c, v = .slice A n c ∧ OwB wr 5 A n c (wrapN ls j) ∧ Fresh w A ∧ Mod none_ w wr ∧ (∀ i l, i < j → ls[i]? = some l → okL l) ∧ n ≤ j * 4102
def WrapPost (w : World) (ls : List (List UInt8)) (e : Ending) (w' : World) : Prop :=
  Mod none_ w w' ∧ (((∀ l ∈ ls, okL l) ∧ ∃ A n c, e = .returned (.tuple #[.slice A n c, .int .i64 0]) ∧ OwB w' 5 A n c (ls.flatMap frameOf) ∧ Fresh w A ∧ n ≤ ls.length * 4102) ∨
    ((∃ l ∈ ls, ¬ okL l) ∧ e = .returned (.tuple #[.slice none 0 0, .int .i64 1])))

set_option maxHeartbeats 1000000 in
theorem wrap_ok (w : World) (A : Option Addr) (n d : Nat) (ss : List SV) (ls : List (List UInt8)) (h : RdLb w A n ss ls) (hn : n ≤ 1000000) :
    Calls Tryz.prog 51 #[.slice A n d] w fun e w' => WrapPost w ls e w' := by
  obtain ⟨i0, hi, hz0, hz1, hz2⟩ := info_parts u8info
  have hll := Lib.hid h.len
  have H := Lib.hid h
  clear h
  go_enter Tryz.func51, Tryz.ntmps51
  go_wp2_with fail
  go_loopw [4, 11] (fun v i wr => ∃ j : Nat, i = .int .i64 j ∧ WrapRel w ls j v wr ∧ j ≤ n) (fun _ i _ => n - (intOf i).toNat)
  case atStart => exact ⟨0, rfl, ⟨none, 0, 0, rfl, Ow.nil _ _ _, (fun _ h => by cases h), Mod.refl _ w, (fun i l hi => by omega), by omega⟩, Nat.zero_le _⟩
  case round =>
    obtain ⟨j, rfl, ⟨B, m, c, rfl, hown, hf, hm, hok, hml⟩, hjn⟩ := hrel
    by_cases q1 : j < n
    · have hr : RdLb wr A n ss ls := ⟨H.out.1.mod0 hm, H.out.2.1, fun i s l hs hl => ⟨Rd.mod0 (H.out.2.2 i s l hs hl).1 hm, (H.out.2.2 i s l hs hl).2⟩⟩
      obtain ⟨b, o, s, l, rfl, hs, hl, hcell, hrb, hsn, hsc⟩ := hr.at_ q1
      obtain ⟨Sa, Sn, Sc⟩ := s
      simp only at hcell hrb hsn hsc
      replace hl := Lib.hid hl
      replace hown := Lib.hid hown
      replace hf := Lib.hid hf
      replace hm := Lib.hid hm
      replace hok := Lib.hid hok
      clear hr hs
      have hlen := hrb.len
      replace hlen := Lib.hid hlen
      replace hrb := Lib.hid hrb
      by_cases hbad : Sn < 1 ∨ 4096 < Sn
      · have hpost : WrapPost w ls (.returned (.tuple #[.slice none 0 0, .int .i64 1])) wr := by
          refine ⟨hm.out, .inr ⟨⟨l, List.mem_of_getElem? hl.out, fun ho => ?_⟩, rfl⟩⟩
          have := ho.1; have := ho.2; have := hlen.out; omega
        replace hpost := Lib.hid hpost
        replace hbad := Lib.hid hbad
        go_wp2_with (go_at_call 43; refine (frame_no _ _ _ _ hbad.out).mono ?_; rintro e w1 ⟨rfl, rfl⟩)
        go_ret2
        exact hpost.out
      · have g1 : 1 ≤ Sn := by omega
        have g2 : Sn ≤ 4096 := by omega
        clear hbad
        go_wp2_with (first
          | (go_at_call 43; refine (frame_yes _ _ _ _ l hrb.out g1 g2).mono ?_; rintro e w1 ⟨A1, c1, rfl, ho1, hf1, hm1⟩; have ho1' := Lib.hid ho1; have hm1' := Lib.hid hm1; clear ho1 hf1 hm1)
          | (at_builtin; refine wpList_append_ow rfl (.tmp 23) (.tmp 24) 22 rfl 5 i0 _ 1 1 Tryz.underlying22 hi hz0 hz1 hz2 rfl (by omega) B m c (bvs (wrapN ls j)) rfl (Ow.mod0 hown.out hm1'.out) A1 (6 + Sn) c1 (bvs (frameOf l)) rfl ho1'.out.rd (bvs_one _) (by omega) (by omega) ?_; intro A5 c5 w5 hown5 hmod5 hA5))
        have hnext : WrapRel w ls (j + 1) (.slice A5 (m + (6 + Sn)) c5) w5 := by
          refine ⟨A5, _, c5, rfl, ?_, ?_, ?_, ?_, by omega⟩
          · have e : wrapN ls (j + 1) = wrapN ls j ++ frameOf l := by
              unfold wrapN
              rw [List.take_add_one, hl.out, List.flatMap_append]; simp
            show Ow _ _ _ _ _ _ (bvs _)
            rw [e, bvs_append]; exact hown5
          · rintro a ha
            rcases hA5 with rfl | rfl
            · exact hf.out a ha
            · cases ha; have := hm.out.size; have := hm1'.out.size; simp; omega
          · exact (hm.out.trans hm1'.out).then hmod5 fun i hi hk => by obtain ⟨a, ha, rfl⟩ := hk; have := hf.out a ha; omega
          · intro i l' hi hl'
            rcases Nat.lt_or_ge i j with h1 | h1
            · exact hok.out i l' h1 hl'
            · obtain rfl : i = j := by omega
              rw [hl.out] at hl'
              cases hl'
              have := hlen.out
              exact ⟨by omega, by omega⟩
        replace hnext := Lib.hid hnext
        clear hown5 hmod5 hA5
        go_wp2
        go_roundw
        case rel => exact ⟨j + 1, by go_num, hnext.out, by omega⟩
        case measure => simp [intOf]; omega
    · have hj2 : j = n := by omega
      have hpost : WrapPost w ls (.returned (.tuple #[.slice B m c, .int .i64 0])) wr := by
        have hlj : ls.length = j := by rw [hll.out, hj2]
        refine ⟨hm, .inl ⟨fun l hl => ?_, B, m, c, rfl, ?_, hf, by rw [hlj]; exact hml⟩⟩
        · obtain ⟨i, h1, h2⟩ := List.getElem_of_mem hl
          exact hok i l (by omega) (by rw [List.getElem?_eq_getElem h1, h2])
        · have e : wrapN ls j = ls.flatMap frameOf := by unfold wrapN; rw [List.take_of_length_le (by omega)]
          rw [e] at hown; exact hown
      replace hpost := Lib.hid hpost
      clear hown hf hm hok hj2
      go_wp2
      go_ret2
      exact hpost.out
end Go.Proofs.YtdnbclhidpkpgaaGreat
/-
  Frames, as a function on lists: what is scanned of frames that are whole. No condition.
-/
namespace Go.Proofs.YtdnbclhidpkpgaaGreat
set_option linter.unusedVariables false
set_option linter.unusedSimpArgs false
section
variable {l r : List UInt8}
theorem num_frame (h : okL l) : num (frameOf l ++ r) = l.length := by
  obtain ⟨h1, h2⟩ := h
  simp [num, frameOf, fhead, by_toNat]
  omega
theorem sumOf_frame : sumOf (frameOf l ++ r) = crc l := by
  have := crc_lt l
  simp [sumOf, frameOf, fhead, by_toNat]
  omega
theorem body_frame (h : okL l) : body (frameOf l ++ r) = l := by
  unfold body
  rw [num_frame h]
  have e : frameOf l ++ r = fhead l ++ (l ++ r) := by simp [frameOf]
  rw [e, List.drop_left' (by rfl)]
  simp
theorem drop_frame : (frameOf l ++ r).drop (6 + l.length) = r := List.drop_left' (frameOf_length l)
theorem stop_frame (h : okL l) : stopE (frameOf l ++ r) = 0 := by
  have h' := h
  obtain ⟨h1, h2⟩ := h'
  refine stop_no ?_ ?_ ?_ ?_
  · rw [List.length_append, frameOf_length]; omega
  · rw [num_frame h]; omega
  · rw [num_frame h, List.length_append, frameOf_length]; omega
  · rw [body_frame h, sumOf_frame]
theorem scan_frame (h : okL l) (r : List UInt8) : scan (frameOf l ++ r) = (l :: (scan r).1, 6 + l.length + (scan r).2.1, (scan r).2.2) := by
  rw [scan_go _ (by rw [List.length_append, frameOf_length]; omega) (stop_frame h), num_frame h, body_frame h, drop_frame]
end
theorem scan_flat : ∀ (ls : List (List UInt8)) (r : List UInt8), (∀ l ∈ ls, okL l) → scan (ls.flatMap frameOf ++ r) = (ls ++ (scan r).1, (ls.flatMap frameOf).length + (scan r).2.1, (scan r).2.2) := by
  intro ls
  induction ls with
  | nil => intro r _; simp
  | cons l ls ih =>
    intro r h
    rw [List.flatMap_cons, List.append_assoc, scan_frame (h l (by simp)), ih r (fun x hx => h x (by simp [hx]))]
    simp [frameOf_length, Nat.add_assoc]
theorem scan_flat0 (ls : List (List UInt8)) (h : ∀ l ∈ ls, okL l) : scan (ls.flatMap frameOf) = (ls, (ls.flatMap frameOf).length, 0) := by
  have := scan_flat ls [] h
  rw [scan_nil [] rfl] at this
  simpa using this
theorem scanF_le : ∀ (f : Nat) (l : List UInt8), (scanF f l).1.length ≤ l.length ∧ (scanF f l).2.1 ≤ l.length := by
  intro f
  induction f with
  | zero => intro l; exact ⟨Nat.zero_le _, Nat.zero_le _⟩
  | succ f ih =>
    intro l
    simp only [scanF]
    by_cases h0 : l.length = 0
    · rw [if_pos h0]; exact ⟨Nat.zero_le _, Nat.zero_le _⟩
    · rw [if_neg h0]
      by_cases h1 : stopE l ≠ 0
      · rw [if_pos h1]; exact ⟨Nat.zero_le _, Nat.zero_le _⟩
      · rw [if_neg h1]
        have h2 : 6 + num l ≤ l.length := by
          rcases Nat.lt_or_ge l.length (6 + num l) with h | h
          · exfalso
            apply h1
            unfold stopE
            split <;> try omega
            split <;> try omega
          · exact h
        have := ih (l.drop (6 + num l))
        rw [List.length_drop] at this
        simp only [List.length_cons]
        omega
theorem scan_le (l : List UInt8) : (scan l).1.length ≤ l.length ∧ (scan l).2.1 ≤ l.length := scanF_le _ l
theorem crc_nine : crc [49, 50, 51, 52, 53, 54, 55, 56, 57] = 3421780262 := by kernel_rfl
end Go.Proofs.YtdnbclhidpkpgaaGreat
/-
  The sum as a function on lists is one-to-one in each byte; a frame of which one byte behind its length is another one. No condition.
-/
namespace Go.Proofs.YtdnbclhidpkpgaaGreat
set_option linter.unusedVariables false
set_option linter.unusedSimpArgs false
theorem xor_cl {a b c : Nat} (h : a ^^^ b = a ^^^ c) : b = c := by
  have : a ^^^ (a ^^^ b) = a ^^^ (a ^^^ c) := by rw [h]
  rwa [← Nat.xor_assoc, ← Nat.xor_assoc, Nat.xor_self, Nat.zero_xor, Nat.zero_xor] at this
theorem xor_cr {a b c : Nat} (h : b ^^^ a = c ^^^ a) : b = c := xor_cl (a := a) (by rw [Nat.xor_comm a, Nat.xor_comm a, h])
theorem step1_inj {a b : Nat} (ha : a < 4294967296) (hb : b < 4294967296) (h : step1 a = step1 b) : a = b := by
  unfold step1 at h
  have la : a / 2 < 2 ^ 31 := by omega
  have lb : b / 2 < 2 ^ 31 := by omega
  have lx : a / 2 ^^^ b / 2 < 2 ^ 31 := Nat.xor_lt_two_pow la lb
  by_cases p : a % 2 = 1 <;> by_cases q : b % 2 = 1
  · rw [if_pos p, if_pos q] at h
    have := xor_cr h
    omega
  · rw [if_pos p, if_neg q] at h
    rw [Nat.xor_zero] at h
    have h2 : a / 2 ^^^ b / 2 = 3988292384 := by rw [← h, ← Nat.xor_assoc, Nat.xor_self, Nat.zero_xor]
    omega
  · rw [if_neg p, if_pos q] at h
    rw [Nat.xor_zero] at h
    have h2 : a / 2 ^^^ b / 2 = 3988292384 := by rw [h, Nat.xor_comm (b / 2), Nat.xor_assoc, Nat.xor_self, Nat.xor_zero]
    omega
  · rw [if_neg p, if_neg q] at h
    rw [Nat.xor_zero, Nat.xor_zero] at h
    omega
theorem stepN_inj : ∀ (n : Nat) {a b : Nat}, a < 4294967296 → b < 4294967296 → stepN n a = stepN n b → a = b := by
  intro n
  induction n with
  | zero => intro a b _ _ h; exact h
  | succ n ih =>
    intro a b ha hb h
    exact ih ha hb (step1_inj (stepN_lt n a ha) (stepN_lt n b hb) h)
theorem xor32 {s : Nat} (b : UInt8) (hs : s < 4294967296) : s ^^^ b.toNat < 4294967296 := Nat.xor_lt_two_pow (n := 32) hs (by have := b.toNat_lt; omega)
theorem crcStep_inj {s s' : Nat} (b : UInt8) (hs : s < 4294967296) (hs' : s' < 4294967296) (h : crcStep s b = crcStep s' b) : s = s' := by
  rw [crcStep_eq, crcStep_eq] at h
  exact xor_cr (stepN_inj 8 (xor32 b hs) (xor32 b hs') h)
theorem crcStep_byte {s : Nat} (b b' : UInt8) (hs : s < 4294967296) (h : crcStep s b = crcStep s b') : b = b' := by
  rw [crcStep_eq, crcStep_eq] at h
  exact UInt8.toNat_inj.1 (xor_cl (stepN_inj 8 (xor32 b hs) (xor32 b' hs) h))
theorem foldl_inj : ∀ (l : List UInt8) {s s' : Nat}, s < 4294967296 → s' < 4294967296 → l.foldl crcStep s = l.foldl crcStep s' → s = s' := by
  intro l
  induction l with
  | nil => intro s s' _ _ h; exact h
  | cons b l ih => intro s s' hs hs' h; exact crcStep_inj b hs hs' (ih (crcStep_lt s b hs) (crcStep_lt s' b hs') h)
theorem crc_inj_fold {a b : List UInt8} (h : crc a = crc b) : crcFold a = crcFold b := by
  have := crcFold_lt a
  have := crcFold_lt b
  unfold crc at h
  omega
theorem crc_set (l : List UInt8) (k : Nat) (c : UInt8) (hk : k < l.length) : crc (l.set k c) = crc l ↔ c = l[k] := by
  constructor
  · intro h
    have h := crc_inj_fold h
    have e : l = l.take k ++ l[k] :: l.drop (k + 1) := by rw [List.getElem_cons_drop, List.take_append_drop]
    have e2 : l.set k c = l.take k ++ c :: l.drop (k + 1) := by rw [List.set_eq_take_append_cons_drop, if_pos hk]
    rw [e2] at h
    conv at h => rhs; rw [e]
    simp only [crcFold, List.foldl_append, List.foldl_cons] at h
    have h0 := foldl_lt (l.take k) 4294967295 (by omega)
    exact crcStep_byte _ _ h0 (foldl_inj _ (crcStep_lt _ _ h0) (crcStep_lt _ _ h0) h)
  · rintro rfl
    rw [List.set_getElem_self]
theorem getD_set (l : List UInt8) (j i : Nat) (c d : UInt8) (hj : j < l.length) : (l.set j c).getD i d = if j = i then c else l.getD i d := by
  simp only [List.getD, List.getElem?_set]
  split
  · rename_i h; subst h; simp
  · rfl
theorem bits_law (l : List UInt8) (h : okL l) (j : Nat) (c : UInt8) (h2 : 2 ≤ j) (hj : j < 6 + l.length) (hc : c ≠ (frameOf l).getD j 0) : scan ((frameOf l).set j c) = ([], 0, 3) := by
  have hlen := frameOf_length l
  have hl2 : ((frameOf l).set j c).length = 6 + l.length := by rw [List.length_set, hlen]
  have hjl : j < (frameOf l).length := by rw [hlen]; exact hj
  have hnum : num ((frameOf l).set j c) = l.length := by
    have e := num_frame (r := []) h
    rw [List.append_nil] at e
    rw [← e]
    unfold num
    rw [getD_set _ _ _ _ _ hjl, getD_set _ _ _ _ _ hjl, if_neg (by omega), if_neg (by omega)]
  have hsum : sumOf (frameOf l) = crc l := by have := sumOf_frame (l := l) (r := []); rwa [List.append_nil] at this
  have hs : stopE ((frameOf l).set j c) = 3 := by
    obtain ⟨g1, g2⟩ := h
    refine stop_sum ?_ ?_ ?_ ?_
    · rw [hl2]; omega
    · rw [hnum]; omega
    · rw [hnum, hl2]; omega
    · unfold body
      rw [hnum]
      have hd : (frameOf l).drop 6 = l := by rw [frameOf]; exact List.drop_left' rfl
      have hne : c.toNat ≠ ((frameOf l).getD j 0).toNat := fun e => hc (UInt8.toNat_inj.1 e)
      by_cases h6 : j < 6
      · have e1 : ((frameOf l).set j c).drop 6 = l := by
          rw [List.drop_set_of_lt (by omega), hd]
        rw [e1, List.take_of_length_le (Nat.le_refl _), ← hsum]
        unfold sumOf
        simp only [getD_set _ _ _ _ _ hjl]
        have b2 := ((frameOf l).getD 2 0).toNat_lt
        have b3 := ((frameOf l).getD 3 0).toNat_lt
        have b4 := ((frameOf l).getD 4 0).toNat_lt
        have b5 := ((frameOf l).getD 5 0).toNat_lt
        have bc := c.toNat_lt
        have hj4 : j = 2 ∨ j = 3 ∨ j = 4 ∨ j = 5 := by omega
        rcases hj4 with rfl | rfl | rfl | rfl <;> simp only [if_true, if_neg (show ¬ (2:Nat) = 3 by omega), if_neg (show ¬ (2:Nat) = 4 by omega), if_neg (show ¬ (2:Nat) = 5 by omega), if_neg (show ¬ (3:Nat) = 2 by omega), if_neg (show ¬ (3:Nat) = 4 by omega), if_neg (show ¬ (3:Nat) = 5 by omega), if_neg (show ¬ (4:Nat) = 2 by omega), if_neg (show ¬ (4:Nat) = 3 by omega), if_neg (show ¬ (4:Nat) = 5 by omega), if_neg (show ¬ (5:Nat) = 2 by omega), if_neg (show ¬ (5:Nat) = 3 by omega), if_neg (show ¬ (5:Nat) = 4 by omega)] <;> omega
      · have e1 : ((frameOf l).set j c).drop 6 = l.set (j - 6) c := by
          rw [List.drop_set, if_neg h6, hd]
        rw [e1, List.take_of_length_le (by rw [List.length_set]; exact Nat.le_refl _)]
        have e2 : sumOf ((frameOf l).set j c) = crc l := by
          rw [← hsum]
          unfold sumOf
          simp only [getD_set _ _ _ _ _ hjl]
          rw [if_neg (by omega), if_neg (by omega), if_neg (by omega), if_neg (by omega)]
        rw [e2]
        intro hcc
        have hk : j - 6 < l.length := by omega
        have h3 := (crc_set l (j - 6) c hk).1 hcc
        apply hc
        rw [h3]
        have e4 : (frameOf l).getD j 0 = ((frameOf l).drop 6).getD (j - 6) 0 := by
          simp only [List.getD, List.getElem?_drop]
          rw [show 6 + (j - 6) = j by omega]
        rw [e4, hd]
        simp [List.getD, hk]
  rw [scan_stop _ (by rw [hl2]; omega) (by rw [hs]; omega), hs]
end Go.Proofs.YtdnbclhidpkpgaaGreat
