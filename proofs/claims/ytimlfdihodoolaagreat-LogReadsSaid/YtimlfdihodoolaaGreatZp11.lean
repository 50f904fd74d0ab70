import Derived.Test.YtimlfdihodoolaaGreatZp1
import Derived.Test.YtimlfdihodoolaaGreatRows
import Derived.Test.YtimlfdihodoolaaGreatZp10
import Derived.Deep.RegionLaw
import Derived.Deep.DeepCutAuto
/-
  A list of texts of bytes in memory of the call's own. No condition.
-/
namespace Go.Proofs.YtimlfdihodoolaaGreat
set_option linter.unusedVariables false
set_option linter.unusedSimpArgs false
open Go.RowKit

def Txt1 (w : World) (LA : Option Addr) (s : SV) (l : List UInt8) : Prop :=
  RdB w s.a s.n l ∧ s.n ≤ s.c ∧ s.c ≤ 9223372036854775807 ∧ (0 < s.n → ∀ k, fp s.a k → k < w.heap.size ∧ ¬ fp LA k)
def Lst (w : World) (LA : Option Addr) (n c : Nat) (ss : List SV) (ls : List (List UInt8)) : Prop :=
  Ow w 22 1 LA n c (ss.map SV.v) ∧ ss.length = ls.length ∧ ∀ (i : Nat) (s : SV) (l : List UInt8), ss[i]? = some s → ls[i]? = some l → Txt1 w LA s l
section
variable {w w' : World} {LA : Option Addr} {n c : Nat} {ss : List SV} {ls : List (List UInt8)}
theorem Lst.nil (w : World) : Lst w none 0 0 [] [] := ⟨Ow.nil _ _ _, rfl, fun i s l hs _ => by simp at hs⟩
theorem Lst.len (h : Lst w LA n c ss ls) : ls.length = n := by
  have := h.1.1
  rw [List.length_map] at this
  rw [← h.2.1]; omega
theorem Txt1.mod {F : Nat → Prop} {s : SV} {l : List UInt8} (h : Txt1 w LA s l) (hm : Mod F w w') (hF : 0 < s.n → ∀ k, fp s.a k → ¬ F k) : Txt1 w' LA s l :=
  ⟨h.1.mod' hm hF, h.2.1, h.2.2.1, fun h0 k hk => ⟨Nat.lt_of_lt_of_le (h.2.2.2 h0 k hk).1 hm.size, (h.2.2.2 h0 k hk).2⟩⟩
theorem Lst.mod0 (h : Lst w LA n c ss ls) (hm : Mod none_ w w') : Lst w' LA n c ss ls :=
  ⟨h.1.mod0 hm, h.2.1, fun i s l hs hl => (h.2.2 i s l hs hl).mod hm fun _ _ _ hf => hf⟩
theorem Lst.push (h : Lst w LA n c ss ls) {s : SV} {l : List UInt8} (h1 : Txt1 w LA s l) {w1 : World} {LA' : Option Addr} {c' : Nat} (hown : Ow w1 22 1 LA' (n + 1) c' (ss.map SV.v ++ [s.v]))
    (hm : Mod (fp LA) w w1) (hA : LA' = LA ∨ ∃ g, LA' = some ⟨g, 0, none⟩ ∧ w.heap.size ≤ g) : Lst w1 LA' (n + 1) c' (ss ++ [s]) (ls ++ [l]) := by
  have key : ∀ s l, Txt1 w LA s l → Txt1 w1 LA' s l := by
    intro s l ht
    refine ⟨ht.1.mod' hm fun h0 k hk hf => (ht.2.2.2 h0 k hk).2 hf, ht.2.1, ht.2.2.1, fun h0 k hk => ?_⟩
    obtain ⟨q1, q2⟩ := ht.2.2.2 h0 k hk
    refine ⟨Nat.lt_of_lt_of_le q1 hm.size, ?_⟩
    rcases hA with rfl | ⟨g, rfl, hg⟩
    · exact q2
    · rintro ⟨a, ha, rfl⟩
      cases ha
      simp only at q1
      omega
  refine ⟨by simpa using hown, by simp [h.2.1], fun i s' l' hs hl => ?_⟩
  by_cases hi : i < ss.length
  · rw [List.getElem?_append_left hi] at hs
    rw [List.getElem?_append_left (by rw [← h.2.1]; exact hi)] at hl
    exact key _ _ (h.2.2 i s' l' hs hl)
  · rw [List.getElem?_append_right (by omega)] at hs
    rw [List.getElem?_append_right (by rw [← h.2.1]; omega), ← h.2.1] at hl
    have e : i - ss.length = 0 := by
      rcases Nat.lt_or_ge (i - ss.length) 1 with h5 | h5
      · omega
      · rw [List.getElem?_eq_none (by simpa using h5)] at hs; cases hs
    rw [e] at hs hl
    simp at hs hl
    subst hs hl
    exact key _ _ h1

/-- A list of texts, read only. -/
def RdLb (w : World) (A : Option Addr) (n : Nat) (ss : List SV) (ls : List (List UInt8)) : Prop :=
  Rd w 1 A n (ss.map SV.v) ∧ ss.length = ls.length ∧ ∀ (i : Nat) (s : SV) (l : List UInt8), ss[i]? = some s → ls[i]? = some l → RdB w s.a s.n l ∧ s.n ≤ s.c ∧ s.c ≤ 9223372036854775807
theorem Lst.rdl (h : Lst w LA n c ss ls) : RdLb w LA n ss ls :=
  ⟨h.1.rd, h.2.1, fun i s l hs hl => ⟨(h.2.2 i s l hs hl).1, (h.2.2 i s l hs hl).2.1, (h.2.2 i s l hs hl).2.2.1⟩⟩
theorem RdLb.mod0 (h : RdLb w LA n ss ls) (hm : Mod none_ w w') : RdLb w' LA n ss ls :=
  ⟨h.1.mod0 hm, h.2.1, fun i s l hs hl => ⟨Rd.mod0 (h.2.2 i s l hs hl).1 hm, (h.2.2 i s l hs hl).2⟩⟩
theorem RdLb.take_ (h : RdLb w LA n ss ls) {j : Nat} (hj : j ≤ n) : RdLb w LA j (ss.take j) (ls.take j) := by
  refine ⟨?_, by simp [h.2.1], fun i s l hs hl => ?_⟩
  · have := Rd.take_ h.1 hj
    rwa [Nat.mul_one, ← List.map_take] at this
  · rw [List.getElem?_take] at hs hl
    split at hs
    · rename_i hi
      rw [if_pos hi] at hl
      exact h.2.2 i s l hs hl
    · cases hs
theorem RdLb.app {A : Option Addr} {m : Nat} {ts : List SV} {ks : List (List UInt8)} {B : Option Addr} (h : RdLb w LA n ss ls) (k : RdLb w B m ts ks) {N : Nat} (hr : Rd w 1 A N ((ss ++ ts).map SV.v)) : RdLb w A N (ss ++ ts) (ls ++ ks) := by
  refine ⟨hr, by simp [h.2.1, k.2.1], fun i s l hs hl => ?_⟩
  rcases Nat.lt_or_ge i ss.length with hi | hi
  · rw [List.getElem?_append_left hi] at hs
    rw [List.getElem?_append_left (by rw [← h.2.1]; exact hi)] at hl
    exact h.2.2 i s l hs hl
  · rw [List.getElem?_append_right hi] at hs
    rw [List.getElem?_append_right (by rw [← h.2.1]; exact hi), ← h.2.1] at hl
    exact k.2.2 _ s l hs hl
theorem RdLb.len (h : RdLb w LA n ss ls) : ls.length = n := by
  have := h.1.1
  rw [List.length_map] at this
  rw [← h.2.1]; omega
theorem RdLb.at_ (h : RdLb w LA n ss ls) {j : Nat} (hj : j < n) : ∃ b o s l, LA = some ⟨b, o, none⟩ ∧ ss[j]? = some s ∧ ls[j]? = some l ∧ w.cell? ⟨b, o + j, none⟩ = some (.slice s.a s.n s.c) ∧ RdB w s.a s.n l ∧ s.n ≤ s.c ∧ s.c ≤ 9223372036854775807 := by
  obtain ⟨b, o, rfl, hc⟩ := h.1.form (by omega) (by omega)
  have hl := h.len
  have h1 : j < ss.length := by rw [h.2.1, hl]; exact hj
  have h2 : j < ls.length := by rw [hl]; exact hj
  have h3 := hc j ss[j].v (by simp [h1])
  obtain ⟨q1, q2, q3⟩ := h.2.2 j _ _ (List.getElem?_eq_getElem h1) (List.getElem?_eq_getElem h2)
  exact ⟨b, o, ss[j], ls[j], rfl, List.getElem?_eq_getElem h1, List.getElem?_eq_getElem h2, h3, q1, q2, q3⟩
end
theorem slinfo : (Tryz.prog.info? 22).map (fun i => (i.zero, i.size, i.bytes)) = some (some (.slice none 0 0), 1, 24) := by kernel_rfl
end Go.Proofs.YtimlfdihodoolaaGreat
/-
  Contracts of frame.Wrap and of the statements' own 'early', 'few'. No condition.
-/
namespace Go.Proofs.YtimlfdihodoolaaGreat
set_option linter.unusedVariables false
set_option linter.unusedSimpArgs false
open Go.RowKit



set_option maxHeartbeats 1000000 in

/-- Many frames. -/
def okL (l : List UInt8) : Prop := 1 ≤ l.length ∧ l.length ≤ 4096
def wrapN (ls : List (List UInt8)) (j : Nat) : List UInt8 := (ls.take j).flatMap frameOf
def WrapRel (w : World) (ls : List (List UInt8)) (j : Nat) (v : Value) (wr : World) : Prop :=
  ∃ A n c, v = .slice A n c ∧ OwB wr 5 A n c (wrapN ls j) ∧ Fresh w A ∧ Mod none_ w wr ∧ (∀ i l, i < j → ls[i]? = some l → okL l) ∧ n ≤ j * 4102
def WrapPost (w : World) (ls : List (List UInt8)) (e : Ending) (w' : World) : Prop :=
  Mod none_ w w' ∧ (((∀ l ∈ ls, okL l) ∧ ∃ A n c, e = .returned (.tuple #[.slice A n c, .int .i64 0]) ∧ OwB w' 5 A n c (ls.flatMap frameOf) ∧ Fresh w A ∧ n ≤ ls.length * 4102) ∨
    ((∃ l ∈ ls, ¬ okL l) ∧ e = .returned (.tuple #[.slice none 0 0, .int .i64 1])))

set_option maxHeartbeats 1000000 in
theorem wrap_ok (w : World) (A : Option Addr) (n d : Nat) (ss : List SV) (ls : List (List UInt8)) (h : RdLb w A n ss ls) (hn : n ≤ 1000000) :
    Calls Tryz.prog 31 #[.slice A n d] w fun e w' => WrapPost w ls e w' := by
  obtain ⟨i0, hi, hz0, hz1, hz2⟩ := info_parts u8info
  have hll := Lib.hid h.len
  have H := Lib.hid h
  clear h
  go_enter Tryz.func31, Tryz.ntmps31
  go_wp2_with fail
  go_loopw [4, 11] (fun v i wr => ∃ j : Nat, i = .int .i64 j ∧ WrapRel w ls j v wr ∧ j ≤ n) (fun _ i _ => n - (intOf i).toNat)
  case atStart => exact ⟨0, rfl, ⟨none, 0, 0, rfl, Ow.nil _ _ _, (fun _ h => by cases h), Mod.refl _ w, (fun i l hi => by omega), by omega⟩, Nat.zero_le _⟩
  case round =>
    obtain ⟨j, rfl, ⟨B, m, c, rfl, hown, hf, hm, hok, hml⟩, hjn⟩ := hrel
    by_cases q1 : j < n
    · have hr : RdLb wr A n ss ls := ⟨H.out.1.mod0 hm, H.out.2.1, fun i s l hs hl => ⟨Rd.mod0 (H.out.2.2 i s l hs hl).1 hm, (H.out.2.2 i s l hs hl).2⟩⟩
      obtain ⟨b, o, s, l, rfl, hs, hl, hcell, hrb, hsn, hsc⟩ := hr.at_ q1
      obtain ⟨Sa, Sn, Sc⟩ := s
      simp only at hcell hrb hsn hsc
      replace hl := Lib.hid hl
      replace hown := Lib.hid hown
      replace hf := Lib.hid hf
      replace hm := Lib.hid hm
      replace hok := Lib.hid hok
      clear hr hs
      have hlen := hrb.len
      replace hlen := Lib.hid hlen
      replace hrb := Lib.hid hrb
      by_cases hbad : Sn < 1 ∨ 4096 < Sn
      · have hpost : WrapPost w ls (.returned (.tuple #[.slice none 0 0, .int .i64 1])) wr := by
          refine ⟨hm.out, .inr ⟨⟨l, List.mem_of_getElem? hl.out, fun ho => ?_⟩, rfl⟩⟩
          have := ho.1; have := ho.2; have := hlen.out; omega
        replace hpost := Lib.hid hpost
        replace hbad := Lib.hid hbad
        go_wp2_with (go_at_call 27; refine (frame_no _ _ _ _ hbad.out).mono ?_; rintro e w1 ⟨rfl, rfl⟩)
        go_ret2
        exact hpost.out
      · have g1 : 1 ≤ Sn := by omega
        have g2 : Sn ≤ 4096 := by omega
        clear hbad
        go_wp2_with (first
          | (go_at_call 27; refine (frame_yes _ _ _ _ l hrb.out g1 g2).mono ?_; rintro e w1 ⟨A1, c1, rfl, ho1, hf1, hm1⟩; have ho1' := Lib.hid ho1; have hm1' := Lib.hid hm1; clear ho1 hf1 hm1)
          | (at_builtin; refine wpList_append_ow rfl (.tmp 23) (.tmp 24) 22 rfl 5 i0 _ 1 1 Tryz.underlying22 hi hz0 hz1 hz2 rfl (by omega) B m c (bvs (wrapN ls j)) rfl (Ow.mod0 hown.out hm1'.out) A1 (6 + Sn) c1 (bvs (frameOf l)) rfl ho1'.out.rd (bvs_one _) (by omega) (by omega) ?_; intro A5 c5 w5 hown5 hmod5 hA5))
        have hnext : WrapRel w ls (j + 1) (.slice A5 (m + (6 + Sn)) c5) w5 := by
          refine ⟨A5, _, c5, rfl, ?_, ?_, ?_, ?_, by omega⟩
          · have e : wrapN ls (j + 1) = wrapN ls j ++ frameOf l := by
              unfold wrapN
              rw [List.take_add_one, hl.out, List.flatMap_append]; simp
            show Ow _ _ _ _ _ _ (bvs _)
            rw [e, bvs_append]; exact hown5
          · rintro a ha
            rcases hA5 with rfl | rfl
            · exact hf.out a ha
            · cases ha; have := hm.out.size; have := hm1'.out.size; simp; omega
          · exact (hm.out.trans hm1'.out).then hmod5 fun i hi hk => by obtain ⟨a, ha, rfl⟩ := hk; have := hf.out a ha; omega
          · intro i l' hi hl'
            rcases Nat.lt_or_ge i j with h1 | h1
            · exact hok.out i l' h1 hl'
            · obtain rfl : i = j := by omega
              rw [hl.out] at hl'
              cases hl'
              have := hlen.out
              exact ⟨by omega, by omega⟩
        replace hnext := Lib.hid hnext
        clear hown5 hmod5 hA5
        go_wp2
        go_roundw
        case rel => exact ⟨j + 1, by go_num, hnext.out, by omega⟩
        case measure => simp [intOf]; omega
    · have hj2 : j = n := by omega
      have hpost : WrapPost w ls (.returned (.tuple #[.slice B m c, .int .i64 0])) wr := by
        have hlj : ls.length = j := by rw [hll.out, hj2]
        refine ⟨hm, .inl ⟨fun l hl => ?_, B, m, c, rfl, ?_, hf, by rw [hlj]; exact hml⟩⟩
        · obtain ⟨i, h1, h2⟩ := List.getElem_of_mem hl
          exact hok i l (by omega) (by rw [List.getElem?_eq_getElem h1, h2])
        · have e : wrapN ls j = ls.flatMap frameOf := by unfold wrapN; rw [List.take_of_length_le (by omega)]
          rw [e] at hown; exact hown
      replace hpost := Lib.hid hpost
      clear hown hf hm hok hj2
      go_wp2
      go_ret2
      exact hpost.out
end Go.Proofs.YtimlfdihodoolaaGreat
/-
  Frames, as a function on lists: what is scanned of bytes. No condition.
-/
namespace Go.Proofs.YtimlfdihodoolaaGreat
set_option linter.unusedVariables false
set_option linter.unusedSimpArgs false
def num (l : List UInt8) : Nat := (l.getD 0 0).toNat + 256 * (l.getD 1 0).toNat
def sumOf (l : List UInt8) : Nat := (l.getD 2 0).toNat + 256 * (l.getD 3 0).toNat + 65536 * (l.getD 4 0).toNat + 16777216 * (l.getD 5 0).toNat
def body (l : List UInt8) : List UInt8 := (l.drop 6).take (num l)
/-- Why no frame stands at the head of bytes that are not none; 0: one does. -/
def stopE (l : List UInt8) : Nat :=
  if l.length < 2 then 4 else if num l < 1 ∨ 4096 < num l then 3 else if l.length < 6 + num l then 4 else if crc (body l) ≠ sumOf l then 3 else 0
def scanF : Nat → List UInt8 → List (List UInt8) × Nat × Nat
  | 0, _ => ([], 0, 0)
  | f + 1, l =>
    if l.length = 0 then ([], 0, 0)
    else if stopE l ≠ 0 then ([], 0, stopE l)
    else (body l :: (scanF f (l.drop (6 + num l))).1, 6 + num l + (scanF f (l.drop (6 + num l))).2.1, (scanF f (l.drop (6 + num l))).2.2)
theorem scanF_fuel : ∀ (f g : Nat) (l : List UInt8), l.length < f → l.length < g → scanF f l = scanF g l := by
  intro f
  induction f with
  | zero => intro g l h; omega
  | succ f ih =>
    intro g l hf hg
    cases g with
    | zero => omega
    | succ g =>
      simp only [scanF]
      by_cases h0 : l.length = 0
      · rw [if_pos h0, if_pos h0]
      · rw [if_neg h0, if_neg h0]
        by_cases h1 : stopE l ≠ 0
        · rw [if_pos h1, if_pos h1]
        · rw [if_neg h1, if_neg h1]
          have e := ih g (l.drop (6 + num l)) (by rw [List.length_drop]; omega) (by rw [List.length_drop]; omega)
          rw [e]
def scan (l : List UInt8) : List (List UInt8) × Nat × Nat := scanF (l.length + 1) l
theorem scan_nil (l : List UInt8) (h : l.length = 0) : scan l = ([], 0, 0) := by
  unfold scan; simp only [scanF]; rw [if_pos h]
theorem scan_stop (l : List UInt8) (h : 0 < l.length) (hs : stopE l ≠ 0) : scan l = ([], 0, stopE l) := by
  unfold scan; simp only [scanF]; rw [if_neg (by omega), if_pos hs]
theorem scan_go (l : List UInt8) (h : 0 < l.length) (hs : stopE l = 0) : scan l = (body l :: (scan (l.drop (6 + num l))).1, 6 + num l + (scan (l.drop (6 + num l))).2.1, (scan (l.drop (6 + num l))).2.2) := by
  have e : scanF l.length (l.drop (6 + num l)) = scan (l.drop (6 + num l)) := scanF_fuel _ _ _ (by rw [List.length_drop]; omega) (by omega)
  conv => lhs; unfold scan; simp only [scanF]
  rw [if_neg (by omega), if_neg (by omega), e]
/-- After k bytes, with the frames L: what is to come completes what is scanned of all. -/
def ScanAt (b : List UInt8) (k : Nat) (L : List (List UInt8)) : Prop :=
  scan b = (L ++ (scan (b.drop k)).1, k + (scan (b.drop k)).2.1, (scan (b.drop k)).2.2)
theorem ScanAt.zero (b : List UInt8) : ScanAt b 0 [] := by unfold ScanAt; simp
theorem ScanAt.go {b : List UInt8} {k : Nat} {L : List (List UInt8)} (h : ScanAt b k L) (hk : k < b.length) (hs : stopE (b.drop k) = 0) : ScanAt b (k + (6 + num (b.drop k))) (L ++ [body (b.drop k)]) := by
  unfold ScanAt at h ⊢
  rw [h, scan_go (b.drop k) (by rw [List.length_drop]; omega) hs, List.drop_drop]
  simp only [List.append_assoc, List.singleton_append, Nat.add_assoc]
theorem ScanAt.stop {b : List UInt8} {k : Nat} {L : List (List UInt8)} (h : ScanAt b k L) (hk : k < b.length) (hs : stopE (b.drop k) ≠ 0) : scan b = (L, k, stopE (b.drop k)) := by
  unfold ScanAt at h
  rw [h, scan_stop (b.drop k) (by rw [List.length_drop]; omega) hs]
  simp
theorem ScanAt.done {b : List UInt8} {k : Nat} {L : List (List UInt8)} (h : ScanAt b k L) (hk : b.length ≤ k) : scan b = (L, k, 0) := by
  unfold ScanAt at h
  rw [h, scan_nil (b.drop k) (by rw [List.length_drop]; omega)]
  simp
theorem stop_short {l : List UInt8} (h : l.length < 2) : stopE l = 4 := by unfold stopE; rw [if_pos h]
theorem stop_num {l : List UInt8} (h : ¬ l.length < 2) (h1 : num l < 1 ∨ 4096 < num l) : stopE l = 3 := by unfold stopE; rw [if_neg h, if_pos h1]
theorem stop_torn {l : List UInt8} (h : ¬ l.length < 2) (h1 : ¬ (num l < 1 ∨ 4096 < num l)) (h2 : l.length < 6 + num l) : stopE l = 4 := by unfold stopE; rw [if_neg h, if_neg h1, if_pos h2]
theorem stop_sum {l : List UInt8} (h : ¬ l.length < 2) (h1 : ¬ (num l < 1 ∨ 4096 < num l)) (h2 : ¬ l.length < 6 + num l) (h3 : crc (body l) ≠ sumOf l) : stopE l = 3 := by unfold stopE; rw [if_neg h, if_neg h1, if_neg h2, if_pos h3]
theorem stop_no {l : List UInt8} (h : ¬ l.length < 2) (h1 : ¬ (num l < 1 ∨ 4096 < num l)) (h2 : ¬ l.length < 6 + num l) (h3 : crc (body l) = sumOf l) : stopE l = 0 := by unfold stopE; rw [if_neg h, if_neg h1, if_neg h2, if_neg (by simpa using h3)]
end Go.Proofs.YtimlfdihodoolaaGreat
/-
  The contract of slices.Clone at bytes. No condition.
-/
namespace Go.Proofs.YtimlfdihodoolaaGreat
set_option linter.unusedVariables false
set_option linter.unusedSimpArgs false
open Go.RowKit
theorem u8info' : (Tryz.prog.info? 5).map (fun i => (i.zero, i.size, i.bytes)) = some (some (.int .u8 0), 1, 1) := by kernel_rfl
theorem clone_b (w : World) (l : List UInt8) (B : Option Addr) (n d : Nat) (h : RdB w B n l) (hn : n ≤ 140737488351232) : Calls Tryz.prog 34 #[.slice B n d] w fun e w' =>
    ∃ A' c', e = .returned (.slice A' n c') ∧ OwB w' 5 A' n c' l ∧ Fresh w A' ∧ Mod none_ w w' := by
  obtain ⟨i0, hi, hz0, hz1, hz2⟩ := info_parts u8info'
  have hq := fun (w : World) (a : Option Addr) (n c : Nat) => Lib.run_eql_slice_nil (P := Tryz.prog) w 22 _ a n c 0 0 Tryz.underlying22
  rcases B with _ | a
  · have hl : l = [] := by
      rcases Nat.eq_zero_or_pos n with h0 | h0
      · exact List.eq_nil_of_length_eq_zero (by rw [h.len, h0])
      · obtain ⟨ad, h, _⟩ := h.2 h0; cases h
    have hn0 : n = 0 := by rw [← h.len, hl] <;> rfl
    subst hl hn0
    clear h hn
    go_enter Tryz.func34, Tryz.ntmps34
    go_wp2
    go_ret
    exact ⟨none, 0, rfl, Ow.nil _ _ _, (fun _ h => by cases h), Mod.refl _ _⟩
  · go_enter Tryz.func34, Tryz.ntmps34
    go_wp2_with (at_builtin; refine wpList_append_ow rfl (.tmp 5) (.tmp 6) 22 rfl 5 i0 _ 1 1 Tryz.underlying22 hi hz0 hz1 hz2 rfl (by omega) (some ⟨w.heap.size, 0, none⟩) 0 0 [] rfl ?_ (some a) n d (bvs l) rfl ?_ (bvs_one l) (by omega) (by omega) ?_)
    · exact Ow.new w _ 1 0 #[] (Nat.zero_le _) rfl
    · exact Rd.alloc h _
    · intro A' c' w1 hown hmod hA'
      go_wp2
      go_ret
      refine ⟨A', c', rfl, hown, ?_, ((Mod.refl none_ w).alloc (.cells #[] 5)).then hmod ?_⟩
      · rintro b hb
        rcases hA' with rfl | rfl <;> cases hb <;> simp
      · rintro k hk ⟨b, hb, rfl⟩
        cases hb
        simp at hk
end Go.Proofs.YtimlfdihodoolaaGreat
/-
  The contract of frame.Scan. No condition.
-/
namespace Go.Proofs.YtimlfdihodoolaaGreat
set_option linter.unusedVariables false
set_option linter.unusedSimpArgs false
open Go.RowKit

theorem or_i64 (a b : Nat) (ha : a < 256) (hb : b < 256) : bits .or .i64 (a : Int) ((b : Int) * 256) = ((a + 256 * b : Nat) : Int) := by
  have := bo_i64 a (b * 256) (by omega) (by omega)
  rw [Nat.or_comm, show b * 256 = b * 2 ^ 8 from rfl, or_add b a 8 (by omega)] at this
  rw [Int.natCast_mul] at this
  rw [show ((b : Int) * 256) = (b : Int) * ((2 ^ 8 : Nat) : Int) from rfl, this]
  omega
theorem or_u32 (a b k : Nat) (hk : k < 32) (ha : a < 2 ^ k) (hb : b * 2 ^ k < 4294967296) : bits .or .u32 (a : Int) ((b : Int) * ((2 ^ k : Nat) : Int)) = ((a + b * 2 ^ k : Nat) : Int) := by
  have h2 : (2 : Nat) ^ k ≤ 2 ^ 31 := Nat.pow_le_pow_right (by omega) (by omega)
  have := bo32 a (b * 2 ^ k) (by omega) hb
  rw [Nat.or_comm, or_add b a k ha, Int.natCast_mul] at this
  rw [this]
  omega
theorem ret3 {a a' : Value} {x x' : Int} {y y' : Int} (h1 : a = a') (h2 : x = x') (h3 : y = y') : Ending.returned (.tuple #[a, .int .i64 x, .int .i64 y]) = .returned (.tuple #[a', .int .i64 x', .int .i64 y']) := by rw [h1, h2, h3]

def ScanRel (w : World) (b : List UInt8) (k : Nat) (v : Value) (wr : World) : Prop :=
  ∃ LA n c ss L, v = .slice LA n c ∧ Lst wr LA n c ss L ∧ (∀ i, fp LA i → w.heap.size ≤ i) ∧ ScanAt b k L ∧ Mod none_ w wr ∧ n ≤ k
/-- What Scan hands back. -/
def ScanPost (w : World) (b : List UInt8) (e : Ending) (w' : World) : Prop :=
  ∃ LA n c ss, e = .returned (.tuple #[.slice LA n c, .int .i64 ((scan b).2.1 : Nat), .int .i64 ((scan b).2.2 : Nat)]) ∧ Lst w' LA n c ss (scan b).1 ∧ (∀ i, fp LA i → w.heap.size ≤ i) ∧ Mod none_ w w'

theorem RdB.drewN_ {w : World} {A : Option Addr} {n : Nat} {l : List UInt8} (h : RdB w A n l) (k : Nat) : RdB (w.drewN k) A n l := h
theorem scan_end {w w' : World} {b : List UInt8} {LA : Option Addr} {m lc k ee : Nat} {ss : List SV} {L : List (List UInt8)} {x : Int} (hst : scan b = (L, k, ee)) (hL : Lst w' LA m lc ss L) (hLA : ∀ i, fp LA i → w.heap.size ≤ i) (hm : Mod none_ w w') (he : x = (ee : Int)) :
    ScanPost w b (.returned (.tuple #[.slice LA m lc, .int .i64 (k : Int), .int .i64 x])) w' :=
  ⟨LA, m, lc, ss, by rw [hst, he], by rw [hst]; exact hL, hLA, hm⟩
theorem rdb_sub {w : World} {g O q nm : Nat} {r : List UInt8} (hget : ∀ i, i < q → w.cell? ⟨g, O + i, none⟩ = some (.int .u8 ((r.getD i 0).toNat : Int))) (hr : r.length = q) (h : 6 + nm ≤ q) : RdB w (some ⟨g, O + 6, none⟩) nm ((r.drop 6).take nm) := by
  have hl : ((r.drop 6).take nm).length = nm := by rw [List.length_take, List.length_drop]; omega
  refine ⟨by rw [bvs_length, hl]; omega, fun _ => ⟨_, rfl, fun j u hu => ?_⟩⟩
  have hj : j < nm := by
    rcases Nat.lt_or_ge j nm with h1 | h1
    · exact h1
    · rw [List.getElem?_eq_none (by rw [bvs_length, hl]; exact h1)] at hu; cases hu
  rw [bvs_get (by rw [hl]; exact hj)] at hu
  have e : (⟨g, O + 6, none⟩ : Addr).add j = ⟨g, O + (6 + j), none⟩ := by unfold Addr.add; split <;> simp_all [Nat.add_assoc]
  rw [e, hget (6 + j) (by omega), ← hu]
  have : r.getD (6 + j) 0 = ((r.drop 6).take nm)[j]'(by rw [hl]; exact hj) := by
    simp [List.getD, List.getElem?_eq_getElem (show 6 + j < r.length by omega)]
  rw [this]

set_option maxRecDepth 100000 in
set_option maxHeartbeats 2000000 in
theorem scan_ok (w : World) (A : Option Addr) (n c : Nat) (b : List UInt8) (h : RdB w A n b) (hn : n ≤ c) (hc : c ≤ 9223372036854775807) (hs : n ≤ 1000000) : Calls Tryz.prog 26 #[.slice A n c] w fun e w' => ScanPost w b e w' := by
  have hl := Lib.hid h.len
  have H := Lib.hid h
  obtain ⟨i0, hi, hz0, hz1, hz2⟩ := info_parts slinfo
  clear h
  go_enter Tryz.func26, Tryz.ntmps26
  go_wp2_with fail
  go_step3
  go_wp2_with fail
  go_step3
  go_wp2_with fail
  go_loopw [5, 6, 7] (fun v i e wr => ∃ k : Nat, i = .int .i64 k ∧ e = .int .i64 0 ∧ ScanRel w b k v wr ∧ k ≤ n) (fun _ i _ _ => n - (intOf i).toNat)
  case atStart => exact ⟨0, rfl, rfl, ⟨none, 0, 0, [], [], rfl, Lst.nil w, (fun k hk => by obtain ⟨a, ha, _⟩ := hk; cases ha), ScanAt.zero b, Mod.refl _ w, by omega⟩, by omega⟩
  case round =>
    obtain ⟨k, rfl, rfl, ⟨LA, m, lc, ss, L, rfl, hL, hLA, hsc, hm, hmk⟩, hk⟩ := hrel
    replace hL := Lib.hid hL
    replace hLA := Lib.hid hLA
    replace hsc := Lib.hid hsc
    by_cases hlt : k < n
    · obtain ⟨g, o, rfl, hcell⟩ := (H.out.mod0 hm).form (by omega) (by omega)
      replace hm := Lib.hid hm
      have hlb : b.length = n := hl.out
      obtain ⟨q, rfl⟩ : ∃ q, n = k + q := ⟨n - k, by omega⟩
      obtain ⟨d, rfl⟩ : ∃ d, c = k + d := ⟨c - k, by omega⟩
      have hql : (b.drop k).length = q := by rw [List.length_drop]; omega
      have hget : ∀ i, i < q → wr.cell? ⟨g, o + k + i, none⟩ = some (.int .u8 (((b.drop k).getD i 0).toNat : Int)) := by
        intro i hi
        have h1 : k + i < b.length := by omega
        have := hcell (k + i) _ (bvs_get h1)
        rw [← Nat.add_assoc] at this
        rw [this]
        have e : (b.drop k).getD i 0 = b[k + i] := by simp [List.getD, h1]
        rw [e]
      generalize hr : b.drop k = r at *
      replace hr := Lib.hid hr
      replace hlb := Lib.hid hlb
      have hql := Lib.hid hql
      by_cases hq2 : q < 2
      · have hst := hsc.out.stop (by have := hlb.out; omega) (by rw [hr.out, stop_short (by have := hql.out; omega)]; omega)
        rw [hr.out, stop_short (by have := hql.out; omega)] at hst
        replace hst := Lib.hid hst
        clear hcell hget
        go_wp2
        rw [Exit.noGoto_ret]
        go_ret3
        exact scan_end hst.out hL.out hLA.out (hm.out) rfl
      · have b0 := hget 0 (by omega)
        have b1 := hget 1 (by omega)
        rw [Nat.add_zero] at b0
        have l0 := (r.getD 0 0).toNat_lt
        have l1 := (r.getD 1 0).toNat_lt
        have hnum : num r = (r.getD 0 0).toNat + 256 * (r.getD 1 0).toNat := rfl
        have hor := or_i64 _ _ l0 l1
        rw [← hnum] at hor
        have hnl : num r < 65536 := by omega
        replace hnum := Lib.hid hnum
        generalize (r.getD 0 0).toNat = x0 at *
        generalize (r.getD 1 0).toNat = x1 at *
        obtain ⟨nm, hnm⟩ : ∃ nm, nm = num r := ⟨_, rfl⟩
        rw [← hnm] at hor hnl hnum
        replace hnm := Lib.hid hnm
        by_cases hbad : nm < 1 ∨ 4096 < nm
        · have hse : stopE r = 3 := stop_num (by have := hql.out; omega) (by rw [← hnm.out]; exact hbad)
          have hst := hsc.out.stop (by have := hlb.out; omega) (by rw [hr.out, hse]; omega)
          rw [hr.out, hse] at hst
          replace hst := Lib.hid hst
          have hbad' := Lib.hid (show (nm : Int) < 1 ∨ 4096 < (nm : Int) by omega)
          clear hcell hget hse hbad
          go_wp2_with (first | go_quiet (fail) | (go_at_call 53; refine (fits_no _ _ hbad'.out).mono ?_; rintro e w1 ⟨rfl, rfl⟩))
          rw [Exit.noGoto_ret]
          go_ret3
          exact scan_end hst.out (hL.out.mod0 ((Mod.refl _ wr).drewN _)) hLA.out (hm.out.drewN _) rfl
        · have g1 : 1 ≤ nm := by omega
          have g2 : nm ≤ 4096 := by omega
          by_cases htorn : q < 6 + nm
          · have hse : stopE r = 4 := stop_torn (by have := hql.out; omega) (by rw [← hnm.out]; exact hbad) (by rw [← hnm.out, hql.out]; exact htorn)
            have hst := hsc.out.stop (by have := hlb.out; omega) (by rw [hr.out, hse]; omega)
            rw [hr.out, hse] at hst
            replace hst := Lib.hid hst
            clear hcell hget hse hbad
            go_wp2_with (first | go_quiet (fail) | (go_at_call 53; refine (fits_yes _ _ (by omega) (by omega)).mono ?_; rintro e w1 ⟨rfl, rfl⟩))
            rw [Exit.noGoto_ret]
            go_ret3
            exact scan_end hst.out (hL.out.mod0 ((Mod.refl _ wr).drewN _)) hLA.out (hm.out.drewN _) rfl
          · have b2 := hget 2 (by omega)
            have b3 := hget 3 (by omega)
            have b4 := hget 4 (by omega)
            have b5 := hget 5 (by omega)
            have hbody : RdB wr (some ⟨g, o + k + 6, none⟩) nm (body r) := by
              unfold body
              rw [← hnm.out]
              exact rdb_sub hget hql.out (by omega)
            replace hbody := Lib.hid hbody
            clear hcell hget
            have hse : crc (body r) = sumOf r → stopE r = 0 := fun he => stop_no (by have := hql.out; omega) (by rw [← hnm.out]; exact hbad) (by rw [← hnm.out, hql.out]; exact htorn) he
            have hse3 : crc (body r) ≠ sumOf r → stopE r = 3 := fun he => stop_sum (by have := hql.out; omega) (by rw [← hnm.out]; exact hbad) (by rw [← hnm.out, hql.out]; exact htorn) he
            clear hbad
            replace hse := Lib.hid hse
            replace hse3 := Lib.hid hse3
            have l2 := (r.getD 2 0).toNat_lt
            have l3 := (r.getD 3 0).toNat_lt
            have l4 := (r.getD 4 0).toNat_lt
            have l5 := (r.getD 5 0).toNat_lt
            have hsum : sumOf r = (r.getD 2 0).toNat + 256 * (r.getD 3 0).toNat + 65536 * (r.getD 4 0).toNat + 16777216 * (r.getD 5 0).toNat := rfl
            replace hsum := Lib.hid hsum
            generalize (r.getD 2 0).toNat = x2 at *
            generalize (r.getD 3 0).toNat = x3 at *
            generalize (r.getD 4 0).toNat = x4 at *
            generalize (r.getD 5 0).toNat = x5 at *
            have o1 : bits .or .u32 (x2 : Int) ((x3 : Int) * 256) = ((x2 + x3 * 256 : Nat) : Int) := or_u32 x2 x3 8 (by omega) (by omega) (by omega)
            have o2 : bits .or .u32 ((x2 + x3 * 256 : Nat) : Int) ((x4 : Int) * 65536) = ((x2 + x3 * 256 + x4 * 65536 : Nat) : Int) := or_u32 (x2 + x3 * 256) x4 16 (by omega) (by omega) (by omega)
            have o3 : bits .or .u32 ((x2 + x3 * 256 + x4 * 65536 : Nat) : Int) ((x5 : Int) * 16777216) = ((x2 + x3 * 256 + x4 * 65536 + x5 * 16777216 : Nat) : Int) := or_u32 (x2 + x3 * 256 + x4 * 65536) x5 24 (by omega) (by omega) (by omega)
            have hsv : ((x2 + x3 * 256 + x4 * 65536 + x5 * 16777216 : Nat) : Int) = (sumOf r : Int) := by rw [hsum.out]; omega
            rw [hsv] at o3
            clear hsv
            generalize x2 + x3 * 256 + x4 * 65536 = y2 at *
            generalize x2 + x3 * 256 = y1 at *
            go_upto_region 17 with (first | go_quiet (fail) | (go_at_call 53; refine (fits_yes _ _ (by omega) (by omega)).mono ?_; rintro e w1 ⟨rfl, rfl⟩))
            clear o1 o2 o3 b0 b1 b2 b3 b4 b5 hor l0 l1 l2 l3 l4 l5
            go_wp2_with fail
            (with_reducible refine (sum_ok _ _ _ _ (body r) (RdB.drewN_ hbody.out _) (by omega)).mono ?_)
            rintro e w2 ⟨rfl, hm2⟩
            by_cases hcs : crc (body r) = sumOf r
            · have e1 : ((crc (body r) : Int) != (sumOf r : Int)) = false := by rw [hcs]; simp
              have hgo := hsc.out.go (by have := hlb.out; omega) (by rw [hr.out]; exact hse.out hcs)
              rw [hr.out, ← hnm.out] at hgo
              replace hgo := Lib.hid hgo
              replace hcs := Lib.hid hcs
              have hm3 := Lib.hid ((hm.out.drewN _).trans hm2)
              have hL3 := Lib.hid ((hL.out.mod0 ((Mod.refl _ wr).drewN _)).mod0 hm2)
              have hb3' : RdB w2 (some ⟨g, o + k + 6, none⟩) nm (body r) := Rd.mod0 (RdB.drewN_ hbody.out _) hm2
              have hb3 := Lib.hid hb3'
              clear hb3'
              clear hm2
              go_wp2_with fail
              (with_reducible refine (clone_b _ (body r) _ _ _ hb3.out (by omega)).mono ?_)
              rintro e w4 ⟨B4, b4, rfl, ho4, hf4, hm4⟩
              have hm5 := Lib.hid (hm3.out.trans hm4)
              have hL5 := Lib.hid (hL3.out.mod0 hm4)
              have ht : Txt1 (w4.alloc (.cells #[.slice B4 nm b4] 22)) LA ⟨B4, nm, b4⟩ (body r) := by
                refine ⟨Rd.alloc ho4.rd _, ho4.2.1, by have := ho4.2.2.1; simpa [maxLen] using this, fun _ k hk => ⟨?_, ?_⟩⟩
                · have := ho4.lt k hk; simp; omega
                · exact Fresh.apart hf4 (fun k hk => hL3.out.1.lt k hk) k hk
              replace ht := Lib.hid ht
              clear ho4 hf4 hm4
              go_wp2_with (at_builtin; refine wpList_append_ow rfl (.tmp 76) (.tmp 79) 71 rfl 22 i0 _ 1 24 Tryz.underlying71 hi hz0 hz1 hz2 rfl (by omega) LA m lc (ss.map SV.v) rfl (hL5.out.1.mod0 ((Mod.refl none_ w4).alloc _)) (some ⟨w4.heap.size, 0, none⟩) 1 1 [.slice B4 nm b4] rfl (rdn w4 _ 1 1 _ _ (0, 0) rfl rfl) (by simp [Value.oneCell']) (by omega) (by omega) ?_; intro A5 c5 w5 hown5 hmod5 hA5)
              have hA5' : A5 = LA ∨ ∃ g, A5 = some ⟨g, 0, none⟩ ∧ (w4.alloc (.cells #[.slice B4 nm b4] 22)).heap.size ≤ g := by
                rcases hA5 with h | h
                · exact .inl h
                · exact .inr ⟨_, h, by simp⟩
              have hL6 := (hL5.out.mod0 ((Mod.refl none_ w4).alloc _)).push ht.out hown5 hmod5 hA5'
              have hLA6 : ∀ i, fp A5 i → w.heap.size ≤ i := by
                rintro i ⟨a, ha, rfl⟩
                rcases hA5 with rfl | rfl
                · exact hLA.out _ ⟨a, ha, rfl⟩
                · cases ha; have := hm5.out.size; simp; omega
              have hm6 : Mod none_ w w5 := (hm5.out.alloc _).then hmod5 fun i hi hf => by have := hLA.out i hf; omega
              have hnext : ScanRel w b (k + (6 + nm)) (.slice A5 (m + 1) c5) w5 := ⟨A5, m + 1, c5, _, _, rfl, hL6, hLA6, hgo.out, hm6, by omega⟩
              replace hnext := Lib.hid hnext
              clear hL6 hLA6 hm6 hA5 hA5' hown5 hmod5
              go_wp2
              go_roundw
              case rel => exact ⟨k + (6 + nm), by go_num, rfl, hnext.out, by omega⟩
              case measure => simp [intOf]; omega
            · have e1 : ((crc (body r) : Int) != (sumOf r : Int)) = true := by simp; omega
              have hse := hse3.out hcs
              have hst := hsc.out.stop (by have := hlb.out; omega) (by rw [hr.out, hse]; omega)
              rw [hr.out, hse] at hst
              replace hst := Lib.hid hst
              replace hcs := Lib.hid hcs
              have hm3 := Lib.hid ((hm.out.drewN _).trans hm2)
              have hL3 := Lib.hid ((hL.out.mod0 ((Mod.refl _ wr).drewN _)).mod0 hm2)
              clear hse hm2
              go_wp2
              rw [Exit.noGoto_ret]
              go_ret3
              exact scan_end hst.out hL3.out hLA.out hm3.out rfl
    · have hst := hsc.out.done (by have := hl.out; omega)
      replace hst := Lib.hid hst
      replace hm := Lib.hid hm
      go_wp2
      rw [Exit.noGoto_ret]
      go_ret3
      exact scan_end hst.out hL.out hLA.out (hm.out) rfl
end Go.Proofs.YtimlfdihodoolaaGreat
/-
  log.Put: for whatever disk; what it tells and does, out of what Append and Sync do. No condition.
-/
namespace Go.Proofs.YtimlfdihodoolaaGreat
set_option linter.unusedVariables false
set_option linter.unusedSimpArgs false
open Go.RowKit
def RtR (x : Rs) : Bool := rightR x.r
def recsB (xs : List Rs) : List (List UInt8) := xs.map fun x => recB x.r
def logB (xs : List Rs) : List UInt8 := (recsB xs).flatMap frameOf
theorem recsB_len (xs : List Rs) : (recsB xs).length = xs.length := by simp [recsB]
theorem recsB_succ {xs : List Rs} {j : Nat} {x : Rs} (h : xs[j]? = some x) : recsB (xs.take (j + 1)) = recsB (xs.take j) ++ [recB x.r] := by
  rw [List.take_add_one, h]; simp [recsB]
theorem nb_pos (n : Int) : 1 ≤ (nb n).length := by
  unfold nb vb
  rw [show (10 : Nat) = 9 + 1 from rfl, vbF]
  split <;> simp
theorem recB_pos (r : Rc) : 1 ≤ (recB r).length := by
  have := nb_pos r.i.r
  unfold recB headB
  simp only [List.length_append]; omega
theorem rec_okL {x : Rs} (h : RtR x = true) (hn : numsE x.r.e) : okL (recB x.r) := ⟨recB_pos _, by have := recB_len (rightR_okRc h hn); omega⟩
theorem recs_okL {xs : List Rs} (h : ∀ x ∈ xs, RtR x = true) (hn : ∀ x ∈ xs, numsE x.r.e) : ∀ l ∈ recsB xs, okL l := by
  intro l hl
  simp only [recsB, List.mem_map] at hl
  obtain ⟨x, hx, rfl⟩ := hl
  exact rec_okL (h x hx) (hn x hx)
/-- a list of records in memory, each as Right asks -/
structure RsL (w : World) (A : Option Addr) (n : Nat) (xs : List Rs) : Prop where
  rd : RdR w A n xs
  mem : RsM w xs
  ok : ∀ x ∈ xs, RsOk x
  nums : ∀ x ∈ xs, numsE x.r.e
theorem RsL.mod0 {w w' : World} {A : Option Addr} {n : Nat} {xs : List Rs} (h : RsL w A n xs) (hm : Mod none_ w w') : RsL w' A n xs := ⟨Rd.mod0 h.rd hm, h.mem.mod0 hm, h.ok, h.nums⟩
theorem RsL.len {w : World} {A : Option Addr} {n : Nat} {xs : List Rs} (h : RsL w A n xs) : xs.length = n := RdR.len h.rd
set_option maxRecDepth 100000 in
set_option maxHeartbeats 8000000 in
theorem put_gen (w : World) (dv : Value) (A : Option Addr) (n c : Nat) (xs : List Rs) (h : RsL w A n xs) (hn : n ≤ 1000) (R : Ending → World → Prop)
    (kNo : ∀ W, Mod none_ w W → (∃ x ∈ xs, RtR x = false) → R (.returned (.int .i64 1)) W)
    (kNil : ∀ W, Mod none_ w W → n = 0 → R (.returned (.int .i64 0)) W)
    (kA : ∀ W B m d, Mod none_ w W → 0 < n → (∀ x ∈ xs, RtR x = true) → RdB W B m (logB xs) → Fresh w B → m ≤ d → Calls Tryz.prog 32 #[dv, .slice B m d] W fun e w' =>
      ∃ a : Int, e = .returned (.int .i64 a) ∧ ((a ≠ 0 ∧ R (.returned (.int .i64 a)) w') ∨ (a = 0 ∧ Calls Tryz.prog 33 #[dv] w' fun e w'' => ∃ v, e = .returned v ∧ R (.returned v) w''))) :
    Calls Tryz.prog 11 #[dv, .slice A n c] w R := by
  obtain ⟨i0, hi, hz0, hz1, hz2⟩ := info_parts slinfo
  have hl := Lib.hid h.len
  replace h := Lib.hid h
  replace kNo := Lib.hid kNo
  replace kNil := Lib.hid kNil
  replace kA := Lib.hid kA
  go_enter Tryz.func11, Tryz.ntmps11
  go_wp2_with fail
  go_loopw [5, 15] (fun v y wr => ∃ j : Nat, y = .int .i64 j ∧ j ≤ n ∧ ∃ B d ss, v = .slice B j d ∧ Lst wr B j d ss (recsB (xs.take j)) ∧ (∀ i, fp B i → w.heap.size ≤ i) ∧ Mod none_ w wr ∧ ∀ x ∈ xs.take j, RtR x = true) (fun _ y _ => n - (intOf y).toNat)
  case atStart => exact ⟨0, rfl, by omega, none, 0, [], rfl, Lst.nil _, (fun i ⟨a, ha, _⟩ => by cases ha), Mod.refl _ _, fun x hx => by simp at hx⟩
  case round =>
    obtain ⟨j, rfl, hj, B, d, ss, rfl, hL, hLA, hm, hall⟩ := hrel
    by_cases hlt : j < n
    · obtain ⟨g, o, x, hA, hxm, hx, hrg⟩ := rdr_get (w := wr) (Rd.mod0 h.out.rd hm) hlt
      subst hA
      unfold rsC at hrg
      have hEx := Lib.hid ((h.out.mem x hxm).mod0 hm)
      obtain ⟨q1, q2, q3, q4⟩ := h.out.ok x hxm
      have kB := Lib.hid (fun W (hM : Mod none_ wr W) => logBytes_ok W x.r x.L x.D (hEx.out.mod0 hM) q1 q2 q3 q4 (h.out.nums x hxm))
      have hz := Lib.hid (Blk.new wr 37 #[.int .i64 0, .int .i64 0, .int .i64 0, .int .i64 0, .int .i64 0, .int .i64 0, .int .i64 0, .int .i64 0, .string ⟨#[]⟩, .string ⟨#[]⟩, .int .i64 0, .slice none 0 0, .int .i64 0, .int .i64 0, .string ⟨#[]⟩, .bool false, .slice none 0 0])
      have hlb : (recB x.r).length ≤ 100000000 ∨ RtR x = false := by
        cases hr : RtR x with
        | true => exact .inl (by have := recB_len (rightR_okRc hr (h.out.nums x hxm)); omega)
        | false => exact .inr rfl
      replace hL := Lib.hid hL
      replace hLA := Lib.hid hLA
      replace hm := Lib.hid hm
      replace hall := Lib.hid hall
      replace hxm := Lib.hid hxm
      replace hx := Lib.hid hx
      replace hrg := Lib.hid hrg
      replace q3 := Lib.hid q3
      replace q4 := Lib.hid q4
      replace hlb := Lib.hid hlb
      go_wp2_with (first
        | (refine wpList_load_mid rfl 37 (.tmp 17) rfl g (o + j * 17) rfl _ _ hrg.out Tryz.underlying37 rfl rc_size ?_)
        | (refine wpList_store_blk rfl 37 (.tmp 7) (.tmp 18) rfl wr.heap.size 0 _ rfl rfl hz.out (by simp) rc_size (by rfl) #[.int .i64 x.r.i.r, .int .i64 x.r.i.n, .int .i64 x.r.bal, .int .i64 x.r.st, .int .i64 x.r.by_, .int .i64 x.r.e.o.c, .int .i64 x.r.e.o.s, .int .i64 x.r.e.o.k, .string (txt x.r.e.o.acct), .string (txt x.r.e.o.peer), .int .i64 x.r.e.o.sum, .slice x.L.a x.L.n x.L.c, .int .i64 x.r.e.o.per, .int .i64 x.r.e.o.hold, .string (txt x.r.e.o.note), .bool x.r.e.none, .slice x.D.a x.D.n x.D.c] rfl ?_; intro w2 hb2 hm2; have hm2' := Lib.hid (((Mod.refl none_ wr).alloc (.cells #[.int .i64 0, .int .i64 0, .int .i64 0, .int .i64 0, .int .i64 0, .int .i64 0, .int .i64 0, .int .i64 0, .string ⟨#[]⟩, .string ⟨#[]⟩, .int .i64 0, .slice none 0 0, .int .i64 0, .int .i64 0, .string ⟨#[]⟩, .bool false, .slice none 0 0] 37)).in_new (Nat.le_refl _) hm2); replace hb2 := Lib.hid hb2; clear hm2)
        | (refine wpList_load_row rfl 37 (.tmp 7) rfl wr.heap.size rfl _ _ _ _ hb2.out Tryz.underlying37 rfl rc_size ?_))
      have hM2 := Lib.hid (hm.out.trans hm2'.out)
      have hL2 := Lib.hid (hL.out.mod0 hm2'.out)
      with_reducible refine (kB.out _ hm2'.out).mono ?_
      rintro e w3 hpost
      rcases hpost with ⟨hr, A3, c3, rfl, ho3, hf3, hm3⟩ | ⟨hr, rfl, hm3⟩
      · dsimp only
        have hM3 := Lib.hid (hM2.out.trans hm3)
        have hL3 := Lib.hid (hL2.out.mod0 hm3)
        have hlb3 := hlb.out.resolve_right (by unfold RtR; rw [hr]; simp)
        have ht : Txt1 (w3.alloc (.cells #[.slice A3 (recB x.r).length c3] 22)) B ⟨A3, (recB x.r).length, c3⟩ (recB x.r) := by
          refine ⟨Rd.alloc ho3.rd _, ho3.2.1, by have := ho3.2.2.1; simpa [maxLen] using this, fun _ k hk => ⟨?_, ?_⟩⟩
          · have := ho3.lt k hk; simp; omega
          · exact Fresh.apart hf3 (fun k hk => hL2.out.1.lt k hk) k hk
        have hsn := Lib.hid (recsB_succ hx.out)
        replace ht := Lib.hid ht
        replace hr := Lib.hid hr
        generalize hn3 : (recB x.r).length = n3 at *
        clear ho3 hf3 hm3 kB hL hL2 hz hb2 hm hm2' hM2
        replace hn3 := Lib.hid hn3
        go_wp2_with (at_builtin; refine wpList_append_ow rfl (.tmp 27) (.tmp 29) 71 rfl 22 i0 _ 1 24 Tryz.underlying71 hi hz0 hz1 hz2 rfl (by omega) B j d (ss.map SV.v) rfl (hL3.out.1.mod0 ((Mod.refl none_ w3).alloc _)) (some ⟨w3.heap.size, 0, none⟩) 1 1 [.slice A3 n3 c3] rfl (rdn w3 _ 1 1 _ _ (0, 0) rfl rfl) (by simp [Value.oneCell']) (by omega) (by omega) ?_; intro A5 c5 w5 hown5 hmod5 hA5)
        have hA5' : A5 = B ∨ ∃ g, A5 = some ⟨g, 0, none⟩ ∧ (w3.alloc (.cells #[.slice A3 n3 c3] 22)).heap.size ≤ g := by
          rcases hA5 with h | h
          · exact .inl h
          · exact .inr ⟨_, h, by simp⟩
        have hL6 := Lib.hid ((hL3.out.mod0 ((Mod.refl none_ w3).alloc _)).push ht.out hown5 hmod5 hA5')
        have hLA6 : Hid (∀ i, fp A5 i → w.heap.size ≤ i) := Lib.hid (by
          rintro i ⟨a, ha, rfl⟩
          rcases hA5 with rfl | rfl
          · exact hLA.out _ ⟨a, ha, rfl⟩
          · cases ha; have := hM3.out.size; simp; omega)
        have hm6 := Lib.hid ((hM3.out.alloc (.cells #[.slice A3 n3 c3] 22)).then hmod5 (fun i hi hf => by have := hLA.out i hf; omega))
        clear hA5 hA5' hown5 hmod5 ht
        go_wp2_with fail
        go_roundw
        case rel =>
          refine ⟨j + 1, by go_num, by omega, A5, c5, _, rfl, by rw [hsn.out]; exact hL6.out, hLA6.out, hm6.out, ?_⟩
          intro y hy
          rw [List.take_add_one, hx.out] at hy
          rcases List.mem_append.1 hy with hy | hy
          · exact hall.out y hy
          · simp at hy; subst hy; exact hr.out
        case measure => simp [intOf]; omega
      · dsimp only
        have hend := Lib.hid (kNo.out _ (hM2.out.trans hm3) ⟨x, hxm.out, hr⟩)
        clear kB hm3
        replace hr := Lib.hid hr
        go_wp2_with fail
        exact hend.out
    · obtain rfl : j = n := by omega
      rw [List.take_of_length_le (by rw [hl.out]; exact Nat.le_refl _)] at hL hall
      obtain ⟨wf, rfl⟩ : ∃ wf, wf = wr := ⟨_, rfl⟩
      by_cases h0 : j = 0
      · have hend := Lib.hid (kNil.out wf hm h0)
        replace hL := Lib.hid hL
        replace hLA := Lib.hid hLA
        replace hm := Lib.hid hm
        replace hall := Lib.hid hall
        go_wp2_with fail
        exact hend.out
      · have hj0 : ((j : Int) == 0) = false := by simp; omega
        have kW := wrap_ok wf B j d ss (recsB xs) hL.rdl (by omega)
        replace hL := Lib.hid hL
        replace hLA := Lib.hid hLA
        replace hm := Lib.hid hm
        replace hall := Lib.hid hall
        go_wp2_with fail
        with_reducible refine kW.mono ?_
        rintro e w3 ⟨hm3, hcase⟩
        have hok := recs_okL hall.out (h.out.nums)
        obtain ⟨A3, m3, c3, rfl, ho3, hf3, -⟩ : ∃ A n c, e = .returned (.tuple #[.slice A n c, .int .i64 0]) ∧ OwB w3 5 A n c (logB xs) ∧ Fresh wf A ∧ n ≤ (recsB xs).length * 4102 := by
          rcases hcase with ⟨_, h1⟩ | ⟨⟨l, hl1, hl2⟩, _⟩
          · exact h1
          · exact absurd (hok l hl1) hl2
        dsimp only
        have kA2 := Lib.hid (kA.out w3 A3 m3 c3 (hm.out.trans hm3) (by omega) hall.out ho3.rd (fun a ha => Nat.le_trans hm.out.size (hf3 a ha)) ho3.2.1)
        clear hcase hok hm3 ho3 hf3 kW
        go_wp2_with fail
        with_reducible refine kA2.out.mono ?_
        rintro e w4 ⟨a, rfl, hor⟩
        dsimp only
        rcases hor with ⟨ha, hR⟩ | ⟨rfl, kS⟩
        · have ha2 : (a != 0) = true := by simp [ha]
          replace ha := Lib.hid ha
          replace hR := Lib.hid hR
          clear kA2
          go_wp2_with fail
          first | exact hR.out | (go_ret; exact hR.out)
        · replace kS := Lib.hid kS
          clear kA2
          go_wp2_with fail
          with_reducible refine kS.out.mono ?_
          rintro e w5 ⟨v, rfl, hR⟩
          dsimp only
          replace hR := Lib.hid hR
          go_wp2_with fail
          first | exact hR.out | (go_ret; exact hR.out)
end Go.Proofs.YtimlfdihodoolaaGreat
