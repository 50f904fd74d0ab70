import Derived.Test.YtimlfdihodoolaaGreatZp11
import Derived.Test.YtimlfdihodoolaaGreatZp12
import Derived.Test.YtimlfdihodoolaaGreatZp24
import Derived.Deep.DeepCutAuto
import Derived.BigQuiet
import Derived.Test.YtimlfdihodoolaaGreatZp25
import Derived.Test.YtimlfdihodoolaaGreatZp14
/-
  The contract of the reference's Sum: bit by bit. No condition.
-/
namespace Go.Proofs.YtimlfdihodoolaaGreat
set_option linter.unusedVariables false
set_option linter.unusedSimpArgs false
open Go.RowKit

theorem step1_odd {h : Nat} (ho : h % 2 = 1) : step1 h = (h / 2) ^^^ 3988292384 := by unfold step1; rw [if_pos ho]
theorem step1_ev {h : Nat} (ho : ¬ h % 2 = 1) : step1 h = h / 2 := by unfold step1; rw [if_neg ho, Nat.xor_zero]

theorem refsum_ok (w : World) (A : Option Addr) (n c : Nat) (l : List UInt8) (h : RdB w A n l) (hn : n ≤ 140737488351232) : Calls Tryz.prog 81 #[.slice A n c] w fun e w' => e = .returned (.int .u32 (crc l : Nat)) ∧ w = w' := by
  have hl := Lib.hid h.len
  have hr := Lib.hid h
  clear h
  go_enter Tryz.func81, Tryz.ntmps81
  go_wp2_with fail
  go_loop [3, 4] (fun h4 i => ∃ (j : Nat), h4 = .int .u32 (crcFold (l.take j) : Nat) ∧ i = .int .i64 j ∧ j ≤ n) (fun _ i => n - (intOf i).toNat)
  case atStart => exact ⟨0, rfl, rfl, by omega⟩
  case round =>
    obtain ⟨j, rfl, rfl, hj⟩ := hrel
    by_cases hlt : j < n
    · obtain ⟨g, o, rfl, hc⟩ := hr.out.form (by omega) (by omega)
      have hjl : j < l.length := by have := hl.out; omega
      have hcj := hc j _ (bvs_get hjl)
      have hsn : crcFold (l.take (j + 1)) = crcStep (crcFold (l.take j)) l[j] := by
        rw [← crcFold_snoc, List.take_add_one, List.getElem?_eq_getElem hjl] <;> rfl
      have hft := crcFold_lt (l.take j)
      clear hc
      generalize l[j] = b at *
      rw [crcStep_eq] at hsn
      replace hsn := Lib.hid hsn
      generalize crcFold (l.take j) = q at *
      have hbl := b.toNat_lt
      have hx := bx32 q b.toNat hft (by omega)
      have hxl : q ^^^ b.toNat < 4294967296 := Nat.xor_lt_two_pow (n := 32) hft (by omega)
      generalize q ^^^ b.toNat = X at *
      go_wp2_with fail
      go_loop [3, 5] (fun h4 i => ∃ (t : Nat), h4 = .int .u32 (stepN t X : Nat) ∧ i = .int .i64 t ∧ t ≤ 8) (fun _ i => 8 - (intOf i).toNat)
      case atStart => exact ⟨0, rfl, rfl, by omega⟩
      case round =>
        obtain ⟨t, rfl, rfl, ht⟩ := hrel
        have hH := stepN_lt t X hxl
        have hs : stepN (t + 1) X = step1 (stepN t X) := rfl
        by_cases q1 : t < 8
        · generalize stepN t X = H at *
          by_cases q2 : H % 2 = 1
          · rw [step1_odd q2] at hs
            have q3 : (H : Int) % 2 = 1 := by omega
            have q5 : (((H / 2 : Nat) : Int)) = (H : Int) / 2 := by omega
            have q4 : bits .xor .u32 ((H : Int) / 2) 3988292384 = ((H / 2 ^^^ 3988292384 : Nat) : Int) := by
              have := bx32 (H / 2) 3988292384 (by omega) (by omega)
              rw [q5] at this
              exact this
            replace hs := Lib.hid hs
            replace q5 := Lib.hid q5
            go_wp2
            go_round
            case rel => exact ⟨t + 1, by rw [hs.out], by go_num, by omega⟩
            case measure => simp [intOf]; omega
          · rw [step1_ev q2] at hs
            have q3 : ((H : Int) % 2 == 1) = false := by simp; omega
            have q5 : (((H / 2 : Nat) : Int)) = (H : Int) / 2 := by omega
            replace hs := Lib.hid hs
            replace q5 := Lib.hid q5
            replace q2 := Lib.hid q2
            go_wp2
            go_round
            case rel => exact ⟨t + 1, by rw [hs.out, q5.out], by go_num, by omega⟩
            case measure => simp [intOf]; omega
        · obtain rfl : t = 8 := by omega
          go_wp2
          go_round
          case rel => exact ⟨j + 1, by rw [hsn.out], by go_num, by omega⟩
          case measure => simp [intOf]; omega
    · have hjn : j = n := by omega
      have e : l.take j = l := List.take_of_length_le (by have := hl.out; omega)
      have hft := crcFold_lt (l.take j)
      rw [e] at hft ⊢
      clear e
      go_wp2
      go_ret
      refine ⟨ret_i ?_, rfl⟩
      unfold crc; omega
end Go.Proofs.YtimlfdihodoolaaGreat
/-
  The contracts of the reference's Frame and Wrap. No condition.
-/
namespace Go.Proofs.YtimlfdihodoolaaGreat
set_option linter.unusedVariables false
set_option linter.unusedSimpArgs false
open Go.RowKit

theorem refframe_no (w : World) (A : Option Addr) (n c : Nat) (hn : n < 1 ∨ 4096 < n) : Calls Tryz.prog 56 #[.slice A n c] w fun e w' => e = .returned (.tuple #[.slice none 0 0, .int .i64 1]) ∧ w = w' := by
  go_enter Tryz.func56, Tryz.ntmps56
  rcases hn with h | h
  · obtain rfl : n = 0 := by omega
    go_wp2
    go_ret2
    exact ⟨rfl, rfl⟩
  · have q : ¬ n < 1 := by omega
    go_wp2
    go_ret2
    exact ⟨rfl, rfl⟩

set_option maxRecDepth 100000 in
set_option maxHeartbeats 1000000 in
theorem refframe_yes (w : World) (A : Option Addr) (n c : Nat) (l : List UInt8) (h : RdB w A n l) (h1 : 1 ≤ n) (h2 : n ≤ 4096) : Calls Tryz.prog 56 #[.slice A n c] w fun e w' =>
    ∃ A' c', e = .returned (.tuple #[.slice A' (6 + n) c', .int .i64 0]) ∧ OwB w' 5 A' (6 + n) c' (frameOf l) ∧ Fresh w A' ∧ Mod none_ w w' := by
  obtain ⟨i0, hi, hz0, hz1, hz2⟩ := info_parts u8info
  have H := Lib.hid h
  have hl := Lib.hid h.len
  have hq := crc_lt l
  clear h
  have hhead : bvs (fhead l) = [.int .u8 ((n : Int) % 256), .int .u8 ((n : Int) / 256), .int .u8 ((crc l : Int) % 256), .int .u8 ((crc l : Int) / 256 % 256), .int .u8 ((crc l : Int) / 65536 % 256), .int .u8 ((crc l : Int) / 16777216)] := by
    have e := hl.out
    simp only [bvs, fhead, bv, List.map_cons, List.map_nil, by_toNat, e]
    have x1 : ((n / 256 % 256 : Nat) : Int) = (n : Int) / 256 := by omega
    have x2 : ((crc l / 16777216 % 256 : Nat) : Int) = (crc l : Int) / 16777216 := by omega
    rw [x1, x2]
    rfl
  replace hhead := Lib.hid hhead
  go_enter Tryz.func56, Tryz.ntmps56
  go_wp2_with (first
    | (go_at_call 81; refine (refsum_ok _ A n c l H.out (by omega)).mono ?_; rintro e w1 ⟨rfl, rfl⟩)
    | (at_builtin; refine wpList_append_ow rfl (.tmp 39) (.tmp 40) 22 rfl 5 i0 _ 1 1 Tryz.underlying22 hi hz0 hz1 hz2 rfl (by omega) (some ⟨w.heap.size, 0, none⟩) 6 6 (bvs (fhead l)) rfl (by rw [hhead.out]; exact Ow.new w _ 1 6 _ (by decide) rfl) A n c (bvs l) rfl (H.out.alloc _) (bvs_one _) (by omega) (by omega) ?_; intro A5 c5 w5 hown5 hmod5 hA5))
  have ho5 := Lib.hid (show OwB w5 5 A5 (6 + n) c5 (frameOf l) from by show Ow _ _ _ _ _ _ (bvs _); rw [frameOf, bvs_append]; exact hown5)
  have hm5 := Lib.hid (((Mod.refl none_ w).alloc (.cells #[.int .u8 ((n : Int) % 256), .int .u8 ((n : Int) / 256), .int .u8 ((crc l : Int) % 256), .int .u8 ((crc l : Int) / 256 % 256), .int .u8 ((crc l : Int) / 65536 % 256), .int .u8 ((crc l : Int) / 16777216)] 5)).then hmod5 fun i hi hf => by obtain ⟨a, ha, rfl⟩ := hf; cases ha; simp only at hi; omega)
  have hf5 : Fresh w A5 := by
    rintro a ha
    rcases hA5 with rfl | rfl <;> cases ha
    · exact Nat.le_refl _
    · simp
  replace hf5 := Lib.hid hf5
  clear hown5 hmod5 hA5
  go_wp2
  go_ret2
  exact ⟨A5, c5, rfl, ho5.out, hf5.out, hm5.out⟩

end Go.Proofs.YtimlfdihodoolaaGreat
/-
  A frame as it would be written, and as it stands in bytes. No condition.
-/
namespace Go.Proofs.YtimlfdihodoolaaGreat
set_option linter.unusedVariables false
set_option linter.unusedSimpArgs false
theorem body_length {r : List UInt8} (h : 6 + num r ≤ r.length) : (body r).length = num r := by unfold body; rw [List.length_take, List.length_drop]; omega
theorem take_split {r : List UInt8} (h : 6 + num r ≤ r.length) : r.take (6 + num r) = [r.getD 0 0, r.getD 1 0, r.getD 2 0, r.getD 3 0, r.getD 4 0, r.getD 5 0] ++ body r := by
  rw [List.take_add]
  unfold body
  congr 1
  match r, h with
  | a :: b :: c :: d :: e :: f :: t, _ => rfl
  | [], h => simp at h
  | [_], h => simp at h; omega
  | [_, _], h => simp at h; omega
  | [_, _, _], h => simp at h; omega
  | [_, _, _, _], h => simp at h; omega
  | [_, _, _, _, _], h => simp at h; omega
theorem frame_take {r : List UInt8} (h : 6 + num r ≤ r.length) : frameOf (body r) = r.take (6 + num r) ↔ crc (body r) = sumOf r := by
  rw [take_split h]
  have hb := body_length h
  have hq := crc_lt (body r)
  have l0 := (r.getD 0 0).toNat_lt
  have l1 := (r.getD 1 0).toNat_lt
  have l2 := (r.getD 2 0).toNat_lt
  have l3 := (r.getD 3 0).toNat_lt
  have l4 := (r.getD 4 0).toNat_lt
  have l5 := (r.getD 5 0).toNat_lt
  have hn : num r = (r.getD 0 0).toNat + 256 * (r.getD 1 0).toNat := rfl
  have hs : sumOf r = (r.getD 2 0).toNat + 256 * (r.getD 3 0).toNat + 65536 * (r.getD 4 0).toNat + 16777216 * (r.getD 5 0).toNat := rfl
  unfold frameOf
  constructor
  · intro he
    have he := List.append_cancel_right he
    unfold fhead at he
    simp only [List.cons.injEq, and_true] at he
    obtain ⟨_, _, e2, e3, e4, e5⟩ := he
    have f2 := congrArg UInt8.toNat e2
    have f3 := congrArg UInt8.toNat e3
    have f4 := congrArg UInt8.toNat e4
    have f5 := congrArg UInt8.toNat e5
    rw [by_toNat] at f2 f3 f4 f5
    omega
  · intro he
    congr 1
    unfold fhead
    rw [hb, by_eq (num r) (r.getD 0 0) (by omega), by_eq (num r / 256) (r.getD 1 0) (by omega), by_eq (crc (body r)) (r.getD 2 0) (by omega), by_eq (crc (body r) / 256) (r.getD 3 0) (by omega), by_eq (crc (body r) / 65536) (r.getD 4 0) (by omega), by_eq (crc (body r) / 16777216) (r.getD 5 0) (by omega)]
end Go.Proofs.YtimlfdihodoolaaGreat
/-
  The contract of the reference's Scan. No condition.
-/
namespace Go.Proofs.YtimlfdihodoolaaGreat
set_option linter.unusedVariables false
set_option linter.unusedSimpArgs false
open Go.RowKit

theorem refscan_next {w w2 w5 : World} {b bo : List UInt8} {K nq m lc c5 nm dd g O : Nat} {LA A5 : Option Addr} {ss : List SV} {L : List (List UInt8)} {ob : Obj} (hm3 : Mod none_ w w2) (hL3 : Lst w2 LA m lc ss L) (hLA : ∀ i, fp LA i → w.heap.size ≤ i) (hb3 : RdB w2 (some ⟨g, O, none⟩) nm bo) (hg : g < w.heap.size)
    (hd : nm ≤ dd) (hdd : dd ≤ 9223372036854775807) (hown5 : Ow w5 22 1 A5 (m + 1) c5 (ss.map SV.v ++ [.slice (some ⟨g, O, none⟩) nm dd])) (hmod5 : Mod (fp LA) ((w2.drewN nq).alloc ob) w5) (hA5 : A5 = LA ∨ A5 = some ⟨((w2.drewN nq).alloc ob).heap.size, 0, none⟩) (hgo : ScanAt b K (L ++ [bo])) (hmk : m + 1 ≤ K) : ScanRel w b K (.slice A5 (m + 1) c5) w5 := by
  have hL5 : Lst ((w2.drewN nq).alloc ob) LA m lc ss L := (hL3.mod0 ((Mod.refl none_ w2).drewN nq)).mod0 ((Mod.refl none_ _).alloc _)
  have hmm : Mod none_ w ((w2.drewN nq).alloc ob) := (hm3.drewN nq).alloc ob
  have ht : Txt1 ((w2.drewN nq).alloc ob) LA ⟨some ⟨g, O, none⟩, nm, dd⟩ bo := by
    refine ⟨Rd.alloc (RdB.drewN_ hb3 nq) _, hd, hdd, fun _ k hk => ?_⟩
    obtain ⟨a, ha, rfl⟩ := hk
    cases ha
    exact ⟨Nat.lt_of_lt_of_le hg hmm.size, fun hf => by have := hLA _ hf; simp only at this; omega⟩
  have hL6 := hL5.push ht hown5 hmod5 (by rcases hA5 with h | h; exact .inl h; exact .inr ⟨_, h, Nat.le_refl _⟩)
  refine ⟨A5, m + 1, c5, _, _, rfl, hL6, ?_, hgo, hmm.then hmod5 fun i hi hf => by have := hLA i hf; omega, hmk⟩
  rintro i ⟨a, ha, rfl⟩
  rcases hA5 with rfl | rfl
  · exact hLA _ ⟨a, ha, rfl⟩
  · cases ha; exact hmm.size

theorem rdb_pre {w : World} {g O q m : Nat} {r : List UInt8} (hget : ∀ i, i < q → w.cell? ⟨g, O + i, none⟩ = some (.int .u8 ((r.getD i 0).toNat : Int))) (hr : r.length = q) (h : m ≤ q) : RdB w (some ⟨g, O, none⟩) m (r.take m) := by
  have hl : (r.take m).length = m := by rw [List.length_take]; omega
  refine ⟨by rw [bvs_length, hl]; omega, fun _ => ⟨_, rfl, fun j u hu => ?_⟩⟩
  have hj : j < m := by
    rcases Nat.lt_or_ge j m with h1 | h1
    · exact h1
    · rw [List.getElem?_eq_none (by rw [bvs_length, hl]; exact h1)] at hu; cases hu
  rw [bvs_get (by rw [hl]; exact hj)] at hu
  have e : (⟨g, O, none⟩ : Addr).add j = ⟨g, O + j, none⟩ := by unfold Addr.add; split <;> simp_all
  rw [e, hget j (by omega), ← hu]
  have : r.getD j 0 = (r.take m)[j]'(by rw [hl]; exact hj) := by
    simp [List.getD, List.getElem?_eq_getElem (show j < r.length by omega)]
  rw [this]

set_option maxRecDepth 100000 in
set_option maxHeartbeats 2000000 in
theorem refscan_ok (w : World) (A : Option Addr) (n c : Nat) (b : List UInt8) (h : RdB w A n b) (hn : n ≤ c) (hc : c ≤ 9223372036854775807) (hs : n ≤ 1000000) : Calls Tryz.prog 28 #[.slice A n c] w fun e w' => ScanPost w b e w' := by
  have hl := Lib.hid h.len
  have H := Lib.hid h
  obtain ⟨i0, hi, hz0, hz1, hz2⟩ := info_parts slinfo
  clear h
  go_enter Tryz.func28, Tryz.ntmps28
  go_wp2_with fail
  go_loopw [5, 6] (fun v i wr => ∃ k : Nat, i = .int .i64 k ∧ ScanRel w b k v wr ∧ k ≤ n) (fun _ i _ => n - (intOf i).toNat)
  case atStart => exact ⟨0, rfl, ⟨none, 0, 0, [], [], rfl, Lst.nil w, (fun k hk => by obtain ⟨a, ha, _⟩ := hk; cases ha), ScanAt.zero b, Mod.refl _ w, by omega⟩, by omega⟩
  case round =>
    obtain ⟨k, rfl, ⟨LA, m, lc, ss, L, rfl, hL, hLA, hsc, hm, hmk⟩, hk⟩ := hrel
    replace hL := Lib.hid hL
    replace hLA := Lib.hid hLA
    replace hsc := Lib.hid hsc
    by_cases hlt : k < n
    · obtain ⟨g, o, rfl, hcell⟩ := (H.out.mod0 hm).form (by omega) (by omega)
      have hblt : g < w.heap.size := H.out.lt (by omega) g ⟨_, rfl, rfl⟩
      replace hm := Lib.hid hm
      have hlb : b.length = n := hl.out
      obtain ⟨q, rfl⟩ : ∃ q, n = k + q := ⟨n - k, by omega⟩
      obtain ⟨d, rfl⟩ : ∃ d, c = k + d := ⟨c - k, by omega⟩
      have hql : (b.drop k).length = q := by rw [List.length_drop]; omega
      have hget : ∀ i, i < q → wr.cell? ⟨g, o + k + i, none⟩ = some (.int .u8 (((b.drop k).getD i 0).toNat : Int)) := by
        intro i hi
        have h1 : k + i < b.length := by omega
        have := hcell (k + i) _ (bvs_get h1)
        rw [← Nat.add_assoc] at this
        rw [this]
        have e : (b.drop k).getD i 0 = b[k + i] := by simp [List.getD, h1]
        rw [e]
      generalize hr : b.drop k = r at *
      replace hr := Lib.hid hr
      replace hlb := Lib.hid hlb
      have hql := Lib.hid hql
      by_cases hq2 : q < 2
      · have hst := hsc.out.stop (by have := hlb.out; omega) (by rw [hr.out, stop_short (by have := hql.out; omega)]; omega)
        rw [hr.out, stop_short (by have := hql.out; omega)] at hst
        replace hst := Lib.hid hst
        clear hcell hget
        go_wp2
        go_ret3
        exact scan_end hst.out hL.out hLA.out (hm.out) rfl
      · have b0 := hget 0 (by omega)
        have b1 := hget 1 (by omega)
        rw [Nat.add_zero] at b0
        have l0 := (r.getD 0 0).toNat_lt
        have l1 := (r.getD 1 0).toNat_lt
        have hnum : num r = (r.getD 0 0).toNat + 256 * (r.getD 1 0).toNat := rfl
        have hnl : num r < 65536 := by omega
        generalize (r.getD 0 0).toNat = x0 at *
        generalize (r.getD 1 0).toNat = x1 at *
        obtain ⟨nm, hnm⟩ : ∃ nm, nm = num r := ⟨_, rfl⟩
        rw [← hnm] at hnl hnum
        replace hnm := Lib.hid hnm
        have hor : (x0 : Int) + 256 * (x1 : Int) = (nm : Int) := by omega
        replace hnum := Lib.hid hnum
        by_cases hbad : nm < 1 ∨ 4096 < nm
        · have hse : stopE r = 3 := stop_num (by have := hql.out; omega) (by rw [← hnm.out]; exact hbad)
          have hst := hsc.out.stop (by have := hlb.out; omega) (by rw [hr.out, hse]; omega)
          rw [hr.out, hse] at hst
          replace hst := Lib.hid hst
          rcases hbad with hb1 | hb1
          · obtain rfl : nm = 0 := by omega
            clear hcell hget hse
            go_wp2_with (go_quiet (fail))
            go_ret3
            exact scan_end hst.out (hL.out.mod0 ((Mod.refl _ wr).drewN _)) hLA.out (hm.out.drewN _) rfl
          · have hb2 : ¬ (nm : Int) < 1 := by omega
            have hb3 : 4096 < (nm : Int) := by omega
            clear hcell hget hse
            go_wp2_with (go_quiet (fail))
            go_ret3
            exact scan_end hst.out (hL.out.mod0 ((Mod.refl _ wr).drewN _)) hLA.out (hm.out.drewN _) rfl
        · have g1 : 1 ≤ nm := by omega
          have g2 : nm ≤ 4096 := by omega
          have j1 : ¬ (nm : Int) < 1 := by omega
          have j2 : ¬ 4096 < (nm : Int) := by omega
          by_cases htorn : q < 6 + nm
          · have hse : stopE r = 4 := stop_torn (by have := hql.out; omega) (by rw [← hnm.out]; exact hbad) (by rw [← hnm.out, hql.out]; exact htorn)
            have hst := hsc.out.stop (by have := hlb.out; omega) (by rw [hr.out, hse]; omega)
            rw [hr.out, hse] at hst
            replace hst := Lib.hid hst
            clear hcell hget hse hbad
            go_wp2_with (go_quiet (fail))
            go_ret3
            exact scan_end hst.out (hL.out.mod0 ((Mod.refl _ wr).drewN _)) hLA.out (hm.out.drewN _) rfl
          · have hbody : RdB wr (some ⟨g, o + k + 6, none⟩) nm (body r) := by
              unfold body
              rw [← hnm.out]
              exact rdb_sub hget hql.out (by omega)
            have hpre : RdB wr (some ⟨g, o + k, none⟩) (6 + nm) (r.take (6 + nm)) := rdb_pre hget hql.out (by omega)
            replace hbody := Lib.hid hbody
            replace hpre := Lib.hid hpre
            have hgl := hblt
            clear hcell hget
            have hse : crc (body r) = sumOf r → stopE r = 0 := fun he => stop_no (by have := hql.out; omega) (by rw [← hnm.out]; exact hbad) (by rw [← hnm.out, hql.out]; exact htorn) he
            have hse3 : crc (body r) ≠ sumOf r → stopE r = 3 := fun he => stop_sum (by have := hql.out; omega) (by rw [← hnm.out]; exact hbad) (by rw [← hnm.out, hql.out]; exact htorn) he
            have hft : frameOf (body r) = r.take (6 + nm) ↔ crc (body r) = sumOf r := by
              have := frame_take (r := r) (by rw [← hnm.out, hql.out]; omega)
              rwa [← hnm.out] at this
            clear hbad
            replace hse := Lib.hid hse
            replace hse3 := Lib.hid hse3
            replace hft := Lib.hid hft
            go_wp2_with (go_quiet (fail))
            (with_reducible refine (refframe_yes _ _ _ _ (body r) (RdB.drewN_ hbody.out _) g1 g2).mono ?_)
            rintro e w2 ⟨B4, b4, rfl, ho4, hf4, hm2⟩
            have cv := conv_bytes _ _ b4 _ _ (show RdB w2 B4 (6 + nm) (frameOf (body r)) from ho4.rd)
            have cv' := conv_bytes _ _ d _ _ (show RdB w2 (some ⟨g, o + k, none⟩) (6 + nm) (r.take (6 + nm)) from Rd.mod0 (RdB.drewN_ hpre.out _) hm2)
            have hb3 := Lib.hid (show RdB w2 (some ⟨g, o + k + 6, none⟩) nm (body r) from Rd.mod0 (RdB.drewN_ hbody.out _) hm2)
            have hm3 := Lib.hid ((hm.out.drewN _).trans hm2)
            have hL3 := Lib.hid ((hL.out.mod0 ((Mod.refl _ wr).drewN _)).mod0 hm2)
            clear ho4 hf4 hm2 hpre hbody
            by_cases hcs : crc (body r) = sumOf r
            · have hgo := hsc.out.go (by have := hlb.out; omega) (by rw [hr.out]; exact hse.out hcs)
              rw [hr.out, ← hnm.out] at hgo
              replace hgo := Lib.hid hgo
              rw [hft.out.2 hcs] at cv
              replace hcs := Lib.hid hcs
              generalize r.take (6 + nm) = T at cv cv' hft
              go_upto_region 15 with (go_quiet (fail))
              clear cv cv' hft
              go_wp2_with (at_builtin; refine wpList_append_ow rfl (.tmp 66) (.tmp 71) 71 rfl 22 i0 _ 1 24 Tryz.underlying71 hi hz0 hz1 hz2 rfl (by omega) LA m lc (ss.map SV.v) rfl ((hL3.out.1.mod0 ((Mod.refl none_ w2).drewN _)).mod0 ((Mod.refl none_ _).alloc _)) (some ⟨w2.heap.size, 0, none⟩) 1 1 [.slice (some ⟨g, o + k + 6, none⟩) nm (d - 6)] rfl (rdn _ _ 1 1 _ _ (0, 0) rfl rfl) (by simp [Value.oneCell']) (by omega) (by omega) ?_; intro A5 c5 w5 hown5 hmod5 hA5)
              have hnext := refscan_next hm3.out hL3.out hLA.out hb3.out hblt (by omega) (by omega) hown5 hmod5 hA5 hgo.out (by omega)
              replace hnext := Lib.hid hnext
              clear hown5 hmod5 hA5
              go_wp2
              go_roundw
              case rel => exact ⟨k + (6 + nm), by go_num, hnext.out, by omega⟩
              case measure => simp [intOf]; omega
            · have hne := fun he => hcs (hft.out.1 he)
              have hse := hse3.out hcs
              have hst := hsc.out.stop (by have := hlb.out; omega) (by rw [hr.out, hse]; omega)
              rw [hr.out, hse] at hst
              replace hst := Lib.hid hst
              replace hcs := Lib.hid hcs
              generalize r.take (6 + nm) = T at cv cv' hft hne
              generalize frameOf (body r) = F at cv hft hne
              have e1 : (!F == T) = true := by simp; exact hne
              clear hse hne hft
              go_wp2_with (go_quiet (fail))
              go_ret3
              exact scan_end hst.out (hL3.out.mod0 ((Mod.refl _ w2).drewN _)) hLA.out (hm3.out.drewN _) rfl
    · have hst := hsc.out.done (by have := hl.out; omega)
      replace hst := Lib.hid hst
      replace hm := Lib.hid hm
      go_wp2
      go_ret3
      exact scan_end hst.out hL.out hLA.out (hm.out) rfl
end Go.Proofs.YtimlfdihodoolaaGreat
/-
  The reference's log.Scan. No condition.
-/
namespace Go.Proofs.YtimlfdihodoolaaGreat
set_option linter.unusedVariables false
set_option linter.unusedSimpArgs false
open Go.RowKit
set_option maxRecDepth 100000 in
set_option maxHeartbeats 8000000 in
theorem r15scan_ok (w : World) (A : Option Addr) (n c : Nat) (b : List UInt8) (h : RdB w A n b) (hn : n ≤ c) (hc : c ≤ 9223372036854775807) (hs : n ≤ 1000000) :
    Calls Tryz.prog 8 #[.slice A n c] w (LScanPost w b) := by
  have hl := h.len
  have kS := Lib.hid (refscan_ok w A n c b h hn hc hs)
  have hle := scan_le b
  have hsh := scan_short b
  replace h := Lib.hid h
  go_enter Tryz.func8, Tryz.ntmps8
  go_wp2_with fail
  refine kS.out.mono ?_
  rintro e w1 ⟨LA, m, lc, ss, rfl, hL, hLA, hm1⟩
  dsimp only
  have hsc : (logScan b) = scanR (scan b).1 := rfl
  have hLl := hL.len
  have hLe := hle.1
  generalize (scan b).1 = fs at *
  generalize (scan b).2.1 = sn at *
  generalize (scan b).2.2 = se at *
  rw [hl] at hLe
  have hmn : m ≤ 1000000 := by omega
  replace hL := Lib.hid hL
  replace hLA := Lib.hid hLA
  replace hm1 := Lib.hid hm1
  replace hsc := Lib.hid hsc
  replace hLl := Lib.hid hLl
  replace hsh := Lib.hid hsh
  clear kS hle
  go_wp2_with fail
  go_loopw [7, 8, 9] (fun v s y wr => ∃ (j q : Nat) (B : Option Addr) (d : Nat) (xs : List Rs), y = .int .i64 j ∧ j ≤ m ∧ v = .slice B j d ∧ s = .int .i64 q ∧ q ≤ j * 5000 ∧ RsN w1 wr B j d xs ∧ Mod none_ w1 wr ∧ (scanR fs).1 = xs.map (·.r) ++ (scanR (fs.drop j)).1 ∧ (scanR fs).2 = q + (scanR (fs.drop j)).2) (fun _ _ y _ => m - (intOf y).toNat)
  case atStart => exact ⟨0, 0, none, 0, [], rfl, by omega, rfl, rfl, by omega, (RsN.nil w1 w1), Mod.refl _ _, by simp, by simp⟩
  case round =>
    obtain ⟨j, q, B, d, xs, rfl, hj, rfl, rfl, hq, hN, hm, e1, e2⟩ := hrel
    by_cases hlt : j < m
    · obtain ⟨g, o, ⟨Sa, Sn, Sc⟩, f, hA, hs1, hf1, hcell1, hrb1, hsn, hscap⟩ := RdLb.at_ hL.out.rdl hlt
      subst hA
      simp only at hcell1 hrb1 hsn hscap
      have hcell := hm.cell_some hcell1 (fun h => h)
      have hrb : RdB wr Sa Sn f := Rd.mod0 hrb1 hm
      clear hrb1
      have hfs := drop_at hf1
      have hfl := hsh.out f (List.mem_of_getElem? hf1)
      have hfn := hrb.len
      have hf0 : Sn ≤ 4096 := by omega
      have kR := r15read_ok wr Sa Sn Sc f hrb hsn hscap
      obtain ⟨x, er, hxe⟩ := duo_ (rdRec f)
      rw [hxe] at kR
      rw [hfs] at e1 e2
      have hz : ∀ W, Hid (Blk (World.alloc W (.cells #[.int .i64 0, .int .i64 0, .int .i64 0, .int .i64 0, .int .i64 0, .int .i64 0, .int .i64 0, .int .i64 0, .string ⟨#[]⟩, .string ⟨#[]⟩, .int .i64 0, .slice none 0 0, .int .i64 0, .int .i64 0, .string ⟨#[]⟩, .bool false, .slice none 0 0] 37)) W.heap.size 37 #[.int .i64 0, .int .i64 0, .int .i64 0, .int .i64 0, .int .i64 0, .int .i64 0, .int .i64 0, .int .i64 0, .string ⟨#[]⟩, .string ⟨#[]⟩, .int .i64 0, .slice none 0 0, .int .i64 0, .int .i64 0, .string ⟨#[]⟩, .bool false, .slice none 0 0]) := fun W => Lib.hid (Blk.new W 37 #[.int .i64 0, .int .i64 0, .int .i64 0, .int .i64 0, .int .i64 0, .int .i64 0, .int .i64 0, .int .i64 0, .string ⟨#[]⟩, .string ⟨#[]⟩, .int .i64 0, .slice none 0 0, .int .i64 0, .int .i64 0, .string ⟨#[]⟩, .bool false, .slice none 0 0])
      have hcell0 := Lib.hid hcell1
      clear hcell1
      replace kR := Lib.hid kR
      replace hN := Lib.hid hN
      replace hm := Lib.hid hm
      replace e1 := Lib.hid e1
      replace e2 := Lib.hid e2
      replace hs1 := Lib.hid hs1
      replace hf1 := Lib.hid hf1
      replace hfs := Lib.hid hfs
      replace hrb := Lib.hid hrb
      replace hxe := Lib.hid hxe
      replace hfl := Lib.hid hfl
      replace hfn := Lib.hid hfn
      go_wp2_with fail
      with_reducible refine kR.out.mono ?_
      rintro e w3 ⟨x3, f3, L3, D3, he, rfl, hE3, hfL, hfD, hm3⟩
      simp only [Prod.mk.injEq] at he
      obtain ⟨rfl, rfl⟩ := he
      dsimp only
      have hz3 := hz w3
      have hM3 := Lib.hid (hm.out.trans hm3)
      have hN3 := Lib.hid (hN.out.mod0 hm3)
      have hrb3 := Lib.hid (Rd.mod0 hrb.out hm3 : RdB w3 Sa Sn f)
      have hNlt := Lib.hid (hN.out.ow.lt)
      have hm13 := Lib.hid hm.out
      clear kR hm3 hN hm
      replace hE3 := Lib.hid hE3
      replace hfL := Lib.hid hfL
      replace hfD := Lib.hid hfD
      by_cases her : er = 0
      · subst her
        have hrr := rdRec_yes hxe.out
        have hle1 : 1 ≤ Sn := by have := hfn.out; have := hrr.2.1; have := recB_pos x; rw [← hrr.2.1] at this; omega
        have hok := Lib.hid (rdRec_ok hxe.out hE3.out)
        replace e1 := e1.out
        replace e2 := e2.out
        rw [scanR_yes hxe.out] at e1 e2
        replace e1 := Lib.hid e1
        replace e2 := Lib.hid e2
        clear hrr
        have h00 : (((0 : Nat) : Int)) = 0 := rfl
        rw [h00]
        clear h00
        go_wp2_with (first
          | (refine wpList_store_blk rfl 37 (.tmp 10) (.tmp 30) rfl w3.heap.size 0 _ rfl rfl hz3.out (by simp) rc_size (by rfl) #[.int .i64 x.i.r, .int .i64 x.i.n, .int .i64 x.bal, .int .i64 x.st, .int .i64 x.by_, .int .i64 x.e.o.c, .int .i64 x.e.o.s, .int .i64 x.e.o.k, .string (txt x.e.o.acct), .string (txt x.e.o.peer), .int .i64 x.e.o.sum, .slice L3.a L3.n L3.c, .int .i64 x.e.o.per, .int .i64 x.e.o.hold, .string (txt x.e.o.note), .bool x.e.none, .slice D3.a D3.n D3.c] rfl ?_; intro w4 hb4 hm4; have hm4' := Lib.hid (((Mod.refl none_ w3).alloc (.cells #[.int .i64 0, .int .i64 0, .int .i64 0, .int .i64 0, .int .i64 0, .int .i64 0, .int .i64 0, .int .i64 0, .string ⟨#[]⟩, .string ⟨#[]⟩, .int .i64 0, .slice none 0 0, .int .i64 0, .int .i64 0, .string ⟨#[]⟩, .bool false, .slice none 0 0] 37)).in_new (Nat.le_refl _) hm4); replace hb4 := Lib.hid hb4; clear hm4; have hM4 := Lib.hid (hM3.out.trans hm4'.out); have hmm := hm4'.out; have hN5 := Lib.hid ((hN3.out.mod0 hmm).mod0 ((Mod.refl none_ w4).alloc (.cells #[.int .i64 x.i.r, .int .i64 x.i.n, .int .i64 x.bal, .int .i64 x.st, .int .i64 x.by_, .int .i64 x.e.o.c, .int .i64 x.e.o.s, .int .i64 x.e.o.k, .string (txt x.e.o.acct), .string (txt x.e.o.peer), .int .i64 x.e.o.sum, .slice L3.a L3.n L3.c, .int .i64 x.e.o.per, .int .i64 x.e.o.hold, .string (txt x.e.o.note), .bool x.e.none, .slice D3.a D3.n D3.c] 37))); have hE5 := Lib.hid ((hE3.out.mod0 hmm).mod0 ((Mod.refl none_ w4).alloc (.cells #[.int .i64 x.i.r, .int .i64 x.i.n, .int .i64 x.bal, .int .i64 x.st, .int .i64 x.by_, .int .i64 x.e.o.c, .int .i64 x.e.o.s, .int .i64 x.e.o.k, .string (txt x.e.o.acct), .string (txt x.e.o.peer), .int .i64 x.e.o.sum, .slice L3.a L3.n L3.c, .int .i64 x.e.o.per, .int .i64 x.e.o.hold, .string (txt x.e.o.note), .bool x.e.none, .slice D3.a D3.n D3.c] 37))); have hone := Lib.hid (rdR_one w4 ⟨x, L3, D3⟩); have hM6 := Lib.hid (hM4.out.alloc (.cells #[.int .i64 x.i.r, .int .i64 x.i.n, .int .i64 x.bal, .int .i64 x.st, .int .i64 x.by_, .int .i64 x.e.o.c, .int .i64 x.e.o.s, .int .i64 x.e.o.k, .string (txt x.e.o.acct), .string (txt x.e.o.peer), .int .i64 x.e.o.sum, .slice L3.a L3.n L3.c, .int .i64 x.e.o.per, .int .i64 x.e.o.hold, .string (txt x.e.o.note), .bool x.e.none, .slice D3.a D3.n D3.c] 37)); have hsz := Lib.hid (show w1.heap.size ≤ (w4.alloc (.cells #[.int .i64 x.i.r, .int .i64 x.i.n, .int .i64 x.bal, .int .i64 x.st, .int .i64 x.by_, .int .i64 x.e.o.c, .int .i64 x.e.o.s, .int .i64 x.e.o.k, .string (txt x.e.o.acct), .string (txt x.e.o.peer), .int .i64 x.e.o.sum, .slice L3.a L3.n L3.c, .int .i64 x.e.o.per, .int .i64 x.e.o.hold, .string (txt x.e.o.note), .bool x.e.none, .slice D3.a D3.n D3.c] 37)).heap.size from hM6.out.size); clear hmm hm4' hM4)
          | (refine wpList_load_row rfl 37 (.tmp 10) rfl w3.heap.size rfl _ _ _ _ hb4.out Tryz.underlying37 rfl rc_size ?_)
          | (at_builtin; go_loud (refine appR rfl (.tmp 36) (.tmp 38) rfl rfl hN5.out.ow rfl hone.out (by omega) ?_; intro A7 c7 w7 ho7 hm7 hA7; have hM7 := hM6.out.then hm7 (fun i hi hf => by obtain ⟨a, ha, hk⟩ := hf; have := hN5.out.new a ha; omega); have hcell7 := hM7.cell_some hcell0.out (fun h => h); replace hM7 := Lib.hid hM7; replace ho7 := Lib.hid ho7; replace hm7 := Lib.hid hm7; replace hA7 := Lib.hid hA7)))
        go_roundw
        case rel =>
          refine ⟨j + 1, q + (Sn + 6), A7, c7, xs ++ [⟨x, L3, D3⟩], by go_num, by omega, rfl, by go_num, by omega, hN5.out.push (w1 := wr) hsz.out hE5.out hNlt.out hm13.out.size ⟨hfL.out, hfD.out⟩ hok.out ho7.out hm7.out hA7.out, ?_, ?_, ?_⟩
          · exact hM7.out
          · rw [e1.out]; simp
          · rw [e2.out, hfn.out]; omega
        case measure => simp [intOf]; omega
      · have her2 : ((er : Int) != 0) = true := by simp; omega
        have hres : logScan b = (xs.map (·.r), q) := by
          have h1 := e1.out; have h2 := e2.out
          rw [scanR_no (by rw [hxe.out]; exact her)] at h1 h2
          rw [hsc.out]
          exact Prod.ext (by rw [h1]; simp) (by rw [h2]; simp)
        replace hres := Lib.hid hres
        clear e1 e2 her hrb3 hE3
        go_wp2_with (refine wpList_store_blk rfl 37 (.tmp 10) (.tmp 30) rfl w3.heap.size 0 _ rfl rfl hz3.out (by simp) rc_size (by rfl) #[.int .i64 x.i.r, .int .i64 x.i.n, .int .i64 x.bal, .int .i64 x.st, .int .i64 x.by_, .int .i64 x.e.o.c, .int .i64 x.e.o.s, .int .i64 x.e.o.k, .string (txt x.e.o.acct), .string (txt x.e.o.peer), .int .i64 x.e.o.sum, .slice L3.a L3.n L3.c, .int .i64 x.e.o.per, .int .i64 x.e.o.hold, .string (txt x.e.o.note), .bool x.e.none, .slice D3.a D3.n D3.c] rfl ?_; intro w4 hb4 hm4; have hm4' := Lib.hid (((Mod.refl none_ w3).alloc (.cells #[.int .i64 0, .int .i64 0, .int .i64 0, .int .i64 0, .int .i64 0, .int .i64 0, .int .i64 0, .int .i64 0, .string ⟨#[]⟩, .string ⟨#[]⟩, .int .i64 0, .slice none 0 0, .int .i64 0, .int .i64 0, .string ⟨#[]⟩, .bool false, .slice none 0 0] 37)).in_new (Nat.le_refl _) hm4); clear hm4 hb4)
        go_ret2
        exact ⟨B, j, d, xs, by rw [hres.out] <;> rfl, (hN3.out.mod0 hm4'.out).weaken hm1.out.size, by rw [hres.out], hm1.out.trans (hM3.out.trans hm4'.out)⟩
    · obtain rfl : j = m := by omega
      have hres : logScan b = (xs.map (·.r), q) := by
        rw [List.drop_of_length_le (by rw [hLl.out]; exact Nat.le_refl _)] at e1 e2
        rw [hsc.out]
        exact Prod.ext (by rw [e1]; simp [scanR]) (by rw [e2]; simp [scanR])
      have hend : LScanPost w b (.returned (.tuple #[.slice B j d, .int .i64 (q : Int)])) wr := ⟨B, j, d, xs, by rw [hres], hN.weaken hm1.out.size, by rw [hres], hm1.out.trans hm⟩
      replace hend := Lib.hid hend
      replace hN := Lib.hid hN
      replace hm := Lib.hid hm
      replace e1 := Lib.hid e1
      replace e2 := Lib.hid e2
      clear hres
      go_wp2_with fail
      go_ret2
      exact hend.out
end Go.Proofs.YtimlfdihodoolaaGreat
/-
  The reference's Same of records, of what is the same. No condition.
-/
namespace Go.Proofs.YtimlfdihodoolaaGreat
set_option linter.unusedVariables false
set_option linter.unusedSimpArgs false
open Go.RowKit
theorem rangeAt_drop {w : World} {b o : Nat} {cs : List Value} (h : w.rangeAt b o cs) (k : Nat) : w.rangeAt b (o + k) (cs.drop k) := fun j v hv => by
  rw [List.getElem?_drop] at hv
  rw [Nat.add_assoc]
  exact h (k + j) v hv
theorem rangeAt_take2 {w : World} {b o : Nat} {a c : Value} {cs : List Value} (h : w.rangeAt b o (a :: c :: cs)) : w.rangeAt b o [a, c] := fun j v hv => by
  match j, hv with
  | 0, hv => exact h 0 v hv
  | 1, hv => exact h 1 v hv
theorem step_store_blk {ops : Array Oper} {op : Oper} {a : Act} {w : World} {K : Act → World → Prop} {Q : Exit → Act → World → Prop} {E : Prop} {P : Program} (hgd : op.guard = none) (ty : TypeId) (x y : Operand) (ho : op.op = .store ty x y)
    (g o : Nat) (cells : Array Value) (hx : a.eval x = .pointer (some ⟨g, o, none⟩)) (hy : a.eval y = .agg cells) {t : TypeId} {cs : Array Value} (hb : Blk w g t cs) (hn : o + cells.size ≤ cs.size)
    (hi : (P.info? ty).map (·.size) = some cells.size) (h1 : cells.toList.all (·.oneCell') = true) (cs' : Array Value) (hcs : cs.toList.take o ++ (cells.toList ++ cs.toList.drop (o + cells.size)) = cs'.toList)
    (h : ∀ w', Blk w' g t cs' → Mod (only g) w w' → K (a.put op.dst undef) w') : if Region.wanted op (yielded ops a.tmps) = true then Oper.wp P op a w K Q else E := by
  rw [if_pos (by simp [Region.wanted, hgd])]
  exact wp_store_mid ty x y ho g o cells hx hy (hb.there o _ hn) hi (by rw [← Array.all_toList]; exact h1) (h _ (by have e := setL_toList cells.toList cs o (by simpa using hn); rw [Array.length_toList, hcs, Array.toList_inj] at e; rw [← e]; exact Blk.setCells _ _ _ _ hb) (Mod.setCells _ _ _ _ (Mod.refl _ w) rfl))
set_option maxRecDepth 100000 in
set_option maxHeartbeats 8000000 in
theorem same15_eq (w : World) (A B : Option Addr) (n m c d : Nat) (xs ys : List Rs) (hA : RsL w A n xs) (hB : RsL w B m ys) (he : xs.map (·.r) = ys.map (·.r)) (hn : n ≤ 140737488355328) :
    Calls Tryz.prog 9 #[.slice A n c, .slice B m d] w fun e w' => e = .returned (.bool true) ∧ Mod none_ w w' := by
  have hnm : m = n := by
    have h1 := hA.len; have h2 := hB.len
    have := congrArg List.length he
    simp at this; omega
  subst hnm
  have hz : ((m : Int) != (m : Int)) = false := by simp
  replace hA := Lib.hid hA
  replace hB := Lib.hid hB
  replace he := Lib.hid he
  go_enter Tryz.func9, Tryz.ntmps9
  go_wp2_with fail
  go_loopg [5] m (fun k x wr => ∃ j : Nat, x = .int .i64 j ∧ j + k = m ∧ Mod none_ w wr)
  case atStart => exact ⟨0, rfl, by omega, Mod.refl _ _⟩
  case round =>
    obtain ⟨j, rfl, hj, hm⟩ := hrel
    by_cases hlt : j < m
    · obtain ⟨g, o, x, e1, hxm, hx, hrg⟩ := rdr_get (w := wr) (Rd.mod0 hA.out.rd hm) hlt
      obtain ⟨g', o', y, e2, hym, hy, hrg'⟩ := rdr_get (w := wr) (Rd.mod0 hB.out.rd hm) hlt
      subst e1 e2
      have hr : y.r = x.r := by
        have := congrArg (fun l => l[j]?) he.out
        simp only [List.getElem?_map, hx, hy, Option.map_some, Option.some.injEq] at this
        exact this.symm
      have hEx := (hA.out.mem x hxm).mod0 hm
      have hEy := (hB.out.mem y hym).mod0 hm
      obtain ⟨q1, q2, _, _⟩ := hA.out.ok x hxm
      obtain ⟨yr, M, E⟩ := y
      simp only at hr
      subst hr
      have hs1 := rangeAt_drop hrg 2
      have hs2 := rangeAt_drop hrg' 2
      simp only [rsC, List.drop_succ_cons, List.drop_zero] at hs1 hs2
      unfold rsC at hrg hrg'
      simp only at hEy hrg'
      replace hm := Lib.hid hm
      replace hxm := Lib.hid hxm
      replace hx := Lib.hid hx
      replace hym := Lib.hid hym
      replace hy := Lib.hid hy
      replace hrg := Lib.hid hrg
      replace hrg' := Lib.hid hrg'
      replace hEx := Lib.hid hEx
      replace hEy := Lib.hid hEy
      replace hs1 := Lib.hid hs1
      replace hs2 := Lib.hid hs2
      go_upto_region 6 with fail
      go_cut [6, 7] from 19 to 28 (fun s6 s7 wx => ∃ p q : Nat, s6 = .pointer (some ⟨p, 0, none⟩) ∧ s7 = .pointer (some ⟨q, 0, none⟩) ∧ Blk wx p 35 #[.int .i64 x.r.bal, .int .i64 x.r.st, .int .i64 x.r.by_, .int .i64 x.r.e.o.c, .int .i64 x.r.e.o.s, .int .i64 x.r.e.o.k, .string (txt x.r.e.o.acct), .string (txt x.r.e.o.peer), .int .i64 x.r.e.o.sum, .slice x.L.a x.L.n x.L.c, .int .i64 x.r.e.o.per, .int .i64 x.r.e.o.hold, .string (txt x.r.e.o.note), .bool x.r.e.none, .slice x.D.a x.D.n x.D.c] ∧ Blk wx q 35 #[.int .i64 x.r.bal, .int .i64 x.r.st, .int .i64 x.r.by_, .int .i64 x.r.e.o.c, .int .i64 x.r.e.o.s, .int .i64 x.r.e.o.k, .string (txt x.r.e.o.acct), .string (txt x.r.e.o.peer), .int .i64 x.r.e.o.sum, .slice M.a M.n M.c, .int .i64 x.r.e.o.per, .int .i64 x.r.e.o.hold, .string (txt x.r.e.o.note), .bool x.r.e.none, .slice E.a E.n E.c] ∧ Mod none_ wr wx)
      case first =>
        have hSm : ∀ W, Mod none_ wr W → W.rangeAt g (o + j * 17 + 2) [.int .i64 x.r.bal, .int .i64 x.r.st, .int .i64 x.r.by_, .int .i64 x.r.e.o.c, .int .i64 x.r.e.o.s, .int .i64 x.r.e.o.k, .string (txt x.r.e.o.acct), .string (txt x.r.e.o.peer), .int .i64 x.r.e.o.sum, .slice x.L.a x.L.n x.L.c, .int .i64 x.r.e.o.per, .int .i64 x.r.e.o.hold, .string (txt x.r.e.o.note), .bool x.r.e.none, .slice x.D.a x.D.n x.D.c] ∧ W.rangeAt g' (o' + j * 17 + 2) [.int .i64 x.r.bal, .int .i64 x.r.st, .int .i64 x.r.by_, .int .i64 x.r.e.o.c, .int .i64 x.r.e.o.s, .int .i64 x.r.e.o.k, .string (txt x.r.e.o.acct), .string (txt x.r.e.o.peer), .int .i64 x.r.e.o.sum, .slice M.a M.n M.c, .int .i64 x.r.e.o.per, .int .i64 x.r.e.o.hold, .string (txt x.r.e.o.note), .bool x.r.e.none, .slice E.a E.n E.c] := fun W hM => ⟨rangeAt_mod hs1.out hM, rangeAt_mod hs2.out hM⟩
        have hS0 := hSm _ ((Mod.refl none_ wr).drew)
        have hm1 := ((Mod.refl none_ wr).drew).alloc (.cells #[.int .i64 0, .int .i64 0, .int .i64 0, .int .i64 0, .int .i64 0, .int .i64 0, .string ⟨#[]⟩, .string ⟨#[]⟩, .int .i64 0, .slice none 0 0, .int .i64 0, .int .i64 0, .string ⟨#[]⟩, .bool false, .slice none 0 0] 35)
        have hm2 := hm1.alloc (.cells #[.int .i64 0, .int .i64 0, .int .i64 0, .int .i64 0, .int .i64 0, .int .i64 0, .string ⟨#[]⟩, .string ⟨#[]⟩, .int .i64 0, .slice none 0 0, .int .i64 0, .int .i64 0, .string ⟨#[]⟩, .bool false, .slice none 0 0] 35)
        have hS1 := hSm _ hm1
        have hS2 := hSm _ hm2
        have hB1 := (Blk.new wr.drew 35 #[.int .i64 0, .int .i64 0, .int .i64 0, .int .i64 0, .int .i64 0, .int .i64 0, .string ⟨#[]⟩, .string ⟨#[]⟩, .int .i64 0, .slice none 0 0, .int .i64 0, .int .i64 0, .string ⟨#[]⟩, .bool false, .slice none 0 0]).alloc (.cells #[.int .i64 0, .int .i64 0, .int .i64 0, .int .i64 0, .int .i64 0, .int .i64 0, .string ⟨#[]⟩, .string ⟨#[]⟩, .int .i64 0, .slice none 0 0, .int .i64 0, .int .i64 0, .string ⟨#[]⟩, .bool false, .slice none 0 0] 35)
        have hB2 := Blk.new (wr.drew.alloc (.cells #[.int .i64 0, .int .i64 0, .int .i64 0, .int .i64 0, .int .i64 0, .int .i64 0, .string ⟨#[]⟩, .string ⟨#[]⟩, .int .i64 0, .slice none 0 0, .int .i64 0, .int .i64 0, .string ⟨#[]⟩, .bool false, .slice none 0 0] 35)) 35 #[.int .i64 0, .int .i64 0, .int .i64 0, .int .i64 0, .int .i64 0, .int .i64 0, .string ⟨#[]⟩, .string ⟨#[]⟩, .int .i64 0, .slice none 0 0, .int .i64 0, .int .i64 0, .string ⟨#[]⟩, .bool false, .slice none 0 0]
        have hsz : (wr.drew.alloc (.cells #[.int .i64 0, .int .i64 0, .int .i64 0, .int .i64 0, .int .i64 0, .int .i64 0, .string ⟨#[]⟩, .string ⟨#[]⟩, .int .i64 0, .slice none 0 0, .int .i64 0, .int .i64 0, .string ⟨#[]⟩, .bool false, .slice none 0 0] 35)).heap.size = wr.heap.size + 1 := by simp
        rw [hsz] at hB2
        have hsz0 : wr.drew.heap.size = wr.heap.size := rfl
        rw [hsz0] at hB1
        clear hsz hsz0
        refine wp_region_held_drew (S := fun W => W.rangeAt g (o + j * 17 + 2) [.int .i64 x.r.bal, .int .i64 x.r.st, .int .i64 x.r.by_, .int .i64 x.r.e.o.c, .int .i64 x.r.e.o.s, .int .i64 x.r.e.o.k, .string (txt x.r.e.o.acct), .string (txt x.r.e.o.peer), .int .i64 x.r.e.o.sum, .slice x.L.a x.L.n x.L.c, .int .i64 x.r.e.o.per, .int .i64 x.r.e.o.hold, .string (txt x.r.e.o.note), .bool x.r.e.none, .slice x.D.a x.D.n x.D.c] ∧ W.rangeAt g' (o' + j * 17 + 2) [.int .i64 x.r.bal, .int .i64 x.r.st, .int .i64 x.r.by_, .int .i64 x.r.e.o.c, .int .i64 x.r.e.o.s, .int .i64 x.r.e.o.k, .string (txt x.r.e.o.acct), .string (txt x.r.e.o.peer), .int .i64 x.r.e.o.sum, .slice M.a M.n M.c, .int .i64 x.r.e.o.per, .int .i64 x.r.e.o.hold, .string (txt x.r.e.o.note), .bool x.r.e.none, .slice E.a E.n E.c]) (by kernel_rfl) hS0 (fun hHeld => ?_)
        refine wpAnyH_take (i := 0) (v := ?_) rfl (by kernel_rfl) (by kernel_rfl) (by kernel_rfl) (fun _ _ _ h => h) (Or.inl ⟨by rfl, ?_⟩) (by assumption) ?_
        rotate_left
        · intro W hSw; (try dsimp only at hSw); go_simp; (try with_reducible rfl)
        try simp only [Act.put, List.getElem_toArray, List.getElem_cons_zero, List.getElem_cons_succ, List.setIfInBounds_toArray, List.set_cons_zero, List.set_cons_succ]
        refine wpAnyH_take (i := 1) (v := ?_) rfl (by kernel_rfl) (by kernel_rfl) (by kernel_rfl) (fun _ _ _ h => h) (Or.inl ⟨by rfl, ?_⟩) (by assumption) ?_
        rotate_left
        · intro W hSw; (try dsimp only at hSw); go_simp; (try with_reducible rfl)
        try simp only [Act.put, List.getElem_toArray, List.getElem_cons_zero, List.getElem_cons_succ, List.setIfInBounds_toArray, List.set_cons_zero, List.set_cons_succ]
        refine wpAnyH_take (i := 2) (v := ?_) rfl (by kernel_rfl) (by kernel_rfl) (by kernel_rfl) (fun _ _ _ h => h) (Or.inl ⟨by rfl, ?_⟩) (by assumption) ?_
        rotate_left
        · intro W hSw; (try dsimp only at hSw); go_simp; (try with_reducible rfl)
        try simp only [Act.put, List.getElem_toArray, List.getElem_cons_zero, List.getElem_cons_succ, List.setIfInBounds_toArray, List.set_cons_zero, List.set_cons_succ]
        refine wpAnyH_take (i := 3) (v := ?_) rfl (by kernel_rfl) (by kernel_rfl) (by kernel_rfl) (fun _ _ _ h => h) (Or.inl ⟨by rfl, ?_⟩) (by assumption) ?_
        rotate_left
        · intro W hSw; (try dsimp only at hSw); go_simp; (try with_reducible rfl)
        try simp only [Act.put, List.getElem_toArray, List.getElem_cons_zero, List.getElem_cons_succ, List.setIfInBounds_toArray, List.set_cons_zero, List.set_cons_succ]
        refine wpAnyH_take (i := 4) rfl (by kernel_rfl) (by kernel_rfl) (by kernel_rfl) (fun _ _ _ h => h) (yieldsIf_load_mid (by rfl) 35 (.tmp 22) rfl g (o + j * 17 + 2) rfl [.int .i64 x.r.bal, .int .i64 x.r.st, .int .i64 x.r.by_, .int .i64 x.r.e.o.c, .int .i64 x.r.e.o.s, .int .i64 x.r.e.o.k, .string (txt x.r.e.o.acct), .string (txt x.r.e.o.peer), .int .i64 x.r.e.o.sum, .slice x.L.a x.L.n x.L.c, .int .i64 x.r.e.o.per, .int .i64 x.r.e.o.hold, .string (txt x.r.e.o.note), .bool x.r.e.none, .slice x.D.a x.D.n x.D.c] _ (fun W hW => hW.1) Tryz.underlying35 rfl slot_size) (by assumption) ?_
        try simp only [Act.put, List.getElem_toArray, List.getElem_cons_zero, List.getElem_cons_succ, List.setIfInBounds_toArray, List.set_cons_zero, List.set_cons_succ]
        refine wpAnyH_take (i := 5) (v := ?_) rfl (by kernel_rfl) (by kernel_rfl) (by kernel_rfl) (fun _ _ _ h => h) (Or.inl ⟨by rfl, ?_⟩) (by assumption) ?_
        rotate_left
        · intro W hSw; (try dsimp only at hSw); go_simp; (try with_reducible rfl)
        try simp only [Act.put, List.getElem_toArray, List.getElem_cons_zero, List.getElem_cons_succ, List.setIfInBounds_toArray, List.set_cons_zero, List.set_cons_succ]
        refine wpAnyH_take (i := 6) (v := ?_) rfl (by kernel_rfl) (by kernel_rfl) (by kernel_rfl) (fun _ _ _ h => h) (Or.inl ⟨by rfl, ?_⟩) (by assumption) ?_
        rotate_left
        · intro W hSw; (try dsimp only at hSw); go_simp; (try with_reducible rfl)
        try simp only [Act.put, List.getElem_toArray, List.getElem_cons_zero, List.getElem_cons_succ, List.setIfInBounds_toArray, List.set_cons_zero, List.set_cons_succ]
        refine wpAnyH_take (i := 7) (v := ?_) rfl (by kernel_rfl) (by kernel_rfl) (by kernel_rfl) (fun _ _ _ h => h) (Or.inl ⟨by rfl, ?_⟩) (by assumption) ?_
        rotate_left
        · intro W hSw; (try dsimp only at hSw); go_simp; (try with_reducible rfl)
        try simp only [Act.put, List.getElem_toArray, List.getElem_cons_zero, List.getElem_cons_succ, List.setIfInBounds_toArray, List.set_cons_zero, List.set_cons_succ]
        refine wpAnyH_take (i := 8) (v := ?_) rfl (by kernel_rfl) (by kernel_rfl) (by kernel_rfl) (fun _ _ _ h => h) (Or.inl ⟨by rfl, ?_⟩) (by assumption) ?_
        rotate_left
        · intro W hSw; (try dsimp only at hSw); go_simp; (try with_reducible rfl)
        try simp only [Act.put, List.getElem_toArray, List.getElem_cons_zero, List.getElem_cons_succ, List.setIfInBounds_toArray, List.set_cons_zero, List.set_cons_succ]
        refine wpAnyH_take (i := 9) rfl (by kernel_rfl) (by kernel_rfl) (by kernel_rfl) (fun _ _ _ h => h) (yieldsIf_load_mid (by rfl) 35 (.tmp 27) rfl g' (o' + j * 17 + 2) rfl [.int .i64 x.r.bal, .int .i64 x.r.st, .int .i64 x.r.by_, .int .i64 x.r.e.o.c, .int .i64 x.r.e.o.s, .int .i64 x.r.e.o.k, .string (txt x.r.e.o.acct), .string (txt x.r.e.o.peer), .int .i64 x.r.e.o.sum, .slice M.a M.n M.c, .int .i64 x.r.e.o.per, .int .i64 x.r.e.o.hold, .string (txt x.r.e.o.note), .bool x.r.e.none, .slice E.a E.n E.c] _ (fun W hW => hW.2) Tryz.underlying35 rfl slot_size) (by assumption) ?_
        try simp only [Act.put, List.getElem_toArray, List.getElem_cons_zero, List.getElem_cons_succ, List.setIfInBounds_toArray, List.set_cons_zero, List.set_cons_succ]
        refine wpAnyH_ready (rs := [10, 11]) (by kernel_rfl) (by simp) ?_
        refine AllReadyH.cons rfl (fun K hK => ?_) (AllReadyH.cons rfl (fun K hK => ?_) AllReadyH.nil)
        focus
          go_simp
          refine hK.out _ _ (hS1) (fun hHeld => ?_)
          clear hK K
          try simp only [Act.put, List.getElem_toArray, List.getElem_cons_zero, List.getElem_cons_succ, List.setIfInBounds_toArray, List.set_cons_zero, List.set_cons_succ]
          refine wpAnyH_ready (rs := [11]) (by kernel_rfl) (by simp) ?_
          refine AllReadyH.cons rfl (fun K hK => ?_) AllReadyH.nil
          go_simp
          refine hK.out _ _ (hS2) (fun hHeld => ?_)
          clear hK K
          try simp only [Act.put, List.getElem_toArray, List.getElem_cons_zero, List.getElem_cons_succ, List.setIfInBounds_toArray, List.set_cons_zero, List.set_cons_succ]
          refine wpAnyH_ready (rs := [12]) (by kernel_rfl) (by simp) ?_
          refine AllReadyH.cons rfl (fun K hK => ?_) AllReadyH.nil
          refine step_store_blk rfl 35 (.tmp 6) (.tmp 23) rfl (wr.heap.size) 0 _ rfl rfl hB1 (by simp) slot_size (by rfl) #[.int .i64 x.r.bal, .int .i64 x.r.st, .int .i64 x.r.by_, .int .i64 x.r.e.o.c, .int .i64 x.r.e.o.s, .int .i64 x.r.e.o.k, .string (txt x.r.e.o.acct), .string (txt x.r.e.o.peer), .int .i64 x.r.e.o.sum, .slice x.L.a x.L.n x.L.c, .int .i64 x.r.e.o.per, .int .i64 x.r.e.o.hold, .string (txt x.r.e.o.note), .bool x.r.e.none, .slice x.D.a x.D.n x.D.c] rfl ?_
          intro w3 hb3 hm3
          have hB3 := hB2.mod hm3 (fun h => by have : wr.heap.size + 1 = wr.heap.size := h; omega)
          have hm3' := hm2.in_new (by omega) hm3
          have hS3 := hSm _ hm3'
          refine hK.out _ _ (hS3) (fun hHeld => ?_)
          clear hK K
          try simp only [Act.put, List.getElem_toArray, List.getElem_cons_zero, List.getElem_cons_succ, List.setIfInBounds_toArray, List.set_cons_zero, List.set_cons_succ]
          refine wpAnyH_ready (rs := [13]) (by kernel_rfl) (by simp) ?_
          refine AllReadyH.cons rfl (fun K hK => ?_) AllReadyH.nil
          refine step_store_blk rfl 35 (.tmp 7) (.tmp 28) rfl (wr.heap.size + 1) 0 _ rfl rfl hB3 (by simp) slot_size (by rfl) #[.int .i64 x.r.bal, .int .i64 x.r.st, .int .i64 x.r.by_, .int .i64 x.r.e.o.c, .int .i64 x.r.e.o.s, .int .i64 x.r.e.o.k, .string (txt x.r.e.o.acct), .string (txt x.r.e.o.peer), .int .i64 x.r.e.o.sum, .slice M.a M.n M.c, .int .i64 x.r.e.o.per, .int .i64 x.r.e.o.hold, .string (txt x.r.e.o.note), .bool x.r.e.none, .slice E.a E.n E.c] rfl ?_
          intro w4 hb4 hm4
          have hb4' := hb3.mod hm4 (fun h => by have : wr.heap.size = wr.heap.size + 1 := h; omega)
          have hm4' := hm3'.in_new (by omega) hm4
          have hS4 := hSm _ hm4'
          refine hK.out _ _ (hS4) (fun hHeld => ?_)
          clear hK K
          try simp only [Act.put, List.getElem_toArray, List.getElem_cons_zero, List.getElem_cons_succ, List.setIfInBounds_toArray, List.set_cons_zero, List.set_cons_succ]
          refine wpAnyH_done (by kernel_rfl) ?_ _
          clear hHeld hS1 hS2 hS3 hS4 hSm hm1 hm2 hm3' hm3 hm4 hB3 hb3 hB1 hB2
          replace hb4 := Lib.hid hb4
          replace hb4' := Lib.hid hb4'
          replace hm4' := Lib.hid hm4'
          go_wp2_with fail
          all_goals go_meet
          exact ⟨wr.heap.size, wr.heap.size + 1, rfl, rfl, hb4'.out, hb4.out, hm4'.out⟩
        focus
          go_simp
          refine hK.out _ _ (hS1) (fun hHeld => ?_)
          clear hK K
          try simp only [Act.put, List.getElem_toArray, List.getElem_cons_zero, List.getElem_cons_succ, List.setIfInBounds_toArray, List.set_cons_zero, List.set_cons_succ]
          refine wpAnyH_ready (rs := [10]) (by kernel_rfl) (by simp) ?_
          refine AllReadyH.cons rfl (fun K hK => ?_) AllReadyH.nil
          go_simp
          refine hK.out _ _ (hS2) (fun hHeld => ?_)
          clear hK K
          try simp only [Act.put, List.getElem_toArray, List.getElem_cons_zero, List.getElem_cons_succ, List.setIfInBounds_toArray, List.set_cons_zero, List.set_cons_succ]
          refine wpAnyH_ready (rs := [12]) (by kernel_rfl) (by simp) ?_
          refine AllReadyH.cons rfl (fun K hK => ?_) AllReadyH.nil
          refine step_store_blk rfl 35 (.tmp 6) (.tmp 23) rfl (wr.heap.size + 1) 0 _ rfl rfl hB2 (by simp) slot_size (by rfl) #[.int .i64 x.r.bal, .int .i64 x.r.st, .int .i64 x.r.by_, .int .i64 x.r.e.o.c, .int .i64 x.r.e.o.s, .int .i64 x.r.e.o.k, .string (txt x.r.e.o.acct), .string (txt x.r.e.o.peer), .int .i64 x.r.e.o.sum, .slice x.L.a x.L.n x.L.c, .int .i64 x.r.e.o.per, .int .i64 x.r.e.o.hold, .string (txt x.r.e.o.note), .bool x.r.e.none, .slice x.D.a x.D.n x.D.c] rfl ?_
          intro w3 hb3 hm3
          have hB3 := hB1.mod hm3 (fun h => by have : wr.heap.size = wr.heap.size + 1 := h; omega)
          have hm3' := hm2.in_new (by omega) hm3
          have hS3 := hSm _ hm3'
          refine hK.out _ _ (hS3) (fun hHeld => ?_)
          clear hK K
          try simp only [Act.put, List.getElem_toArray, List.getElem_cons_zero, List.getElem_cons_succ, List.setIfInBounds_toArray, List.set_cons_zero, List.set_cons_succ]
          refine wpAnyH_ready (rs := [13]) (by kernel_rfl) (by simp) ?_
          refine AllReadyH.cons rfl (fun K hK => ?_) AllReadyH.nil
          refine step_store_blk rfl 35 (.tmp 7) (.tmp 28) rfl (wr.heap.size) 0 _ rfl rfl hB3 (by simp) slot_size (by rfl) #[.int .i64 x.r.bal, .int .i64 x.r.st, .int .i64 x.r.by_, .int .i64 x.r.e.o.c, .int .i64 x.r.e.o.s, .int .i64 x.r.e.o.k, .string (txt x.r.e.o.acct), .string (txt x.r.e.o.peer), .int .i64 x.r.e.o.sum, .slice M.a M.n M.c, .int .i64 x.r.e.o.per, .int .i64 x.r.e.o.hold, .string (txt x.r.e.o.note), .bool x.r.e.none, .slice E.a E.n E.c] rfl ?_
          intro w4 hb4 hm4
          have hb4' := hb3.mod hm4 (fun h => by have : wr.heap.size + 1 = wr.heap.size := h; omega)
          have hm4' := hm3'.in_new (by omega) hm4
          have hS4 := hSm _ hm4'
          refine hK.out _ _ (hS4) (fun hHeld => ?_)
          clear hK K
          try simp only [Act.put, List.getElem_toArray, List.getElem_cons_zero, List.getElem_cons_succ, List.setIfInBounds_toArray, List.set_cons_zero, List.set_cons_succ]
          refine wpAnyH_done (by kernel_rfl) ?_ _
          clear hHeld hS1 hS2 hS3 hS4 hSm hm1 hm2 hm3' hm3 hm4 hB3 hb3 hB1 hB2
          replace hb4 := Lib.hid hb4
          replace hb4' := Lib.hid hb4'
          replace hm4' := Lib.hid hm4'
          go_wp2_with fail
          all_goals go_meet
          exact ⟨wr.heap.size + 1, wr.heap.size, rfl, rfl, hb4'.out, hb4.out, hm4'.out⟩
      case rest =>
        obtain ⟨p, q, rfl, rfl, hbp, hbq, hmx⟩ := hcut
        have hne := fun W => neq_is W x.r.i x.r.i
        unfold isV at hne
        simp only [decide_true, Bool.not_true] at hne
        have hM2 := hm.out.trans hmx
        have hd1 : wc.drew.rangeAt g (o + j * 17) [.int .i64 x.r.i.r, .int .i64 x.r.i.n] := rangeAt_mod (rangeAt_take2 hrg.out) hmx.drew
        have hd2 : wc.drew.rangeAt g' (o' + j * 17) [.int .i64 x.r.i.r, .int .i64 x.r.i.n] := rangeAt_mod (rangeAt_take2 hrg'.out) hmx.drew
        have hS0 : Blk wc.drew p 35 #[.int .i64 x.r.bal, .int .i64 x.r.st, .int .i64 x.r.by_, .int .i64 x.r.e.o.c, .int .i64 x.r.e.o.s, .int .i64 x.r.e.o.k, .string (txt x.r.e.o.acct), .string (txt x.r.e.o.peer), .int .i64 x.r.e.o.sum, .slice x.L.a x.L.n x.L.c, .int .i64 x.r.e.o.per, .int .i64 x.r.e.o.hold, .string (txt x.r.e.o.note), .bool x.r.e.none, .slice x.D.a x.D.n x.D.c] ∧ Blk wc.drew q 35 #[.int .i64 x.r.bal, .int .i64 x.r.st, .int .i64 x.r.by_, .int .i64 x.r.e.o.c, .int .i64 x.r.e.o.s, .int .i64 x.r.e.o.k, .string (txt x.r.e.o.acct), .string (txt x.r.e.o.peer), .int .i64 x.r.e.o.sum, .slice M.a M.n M.c, .int .i64 x.r.e.o.per, .int .i64 x.r.e.o.hold, .string (txt x.r.e.o.note), .bool x.r.e.none, .slice E.a E.n E.c] ∧ wc.drew.rangeAt g (o + j * 17) [.int .i64 x.r.i.r, .int .i64 x.r.i.n] ∧ wc.drew.rangeAt g' (o' + j * 17) [.int .i64 x.r.i.r, .int .i64 x.r.i.n] := ⟨hbp.drew, hbq.drew, hd1, hd2⟩
        have k14 := Lib.hid (same14_eq wc.drew x.r.e x.L x.D M E (hEx.out.mod0 hmx.drew) (hEy.out.mod0 hmx.drew) q1 q2)
        have hSm : ∀ W, Mod none_ wc.drew W → Blk W p 35 #[.int .i64 x.r.bal, .int .i64 x.r.st, .int .i64 x.r.by_, .int .i64 x.r.e.o.c, .int .i64 x.r.e.o.s, .int .i64 x.r.e.o.k, .string (txt x.r.e.o.acct), .string (txt x.r.e.o.peer), .int .i64 x.r.e.o.sum, .slice x.L.a x.L.n x.L.c, .int .i64 x.r.e.o.per, .int .i64 x.r.e.o.hold, .string (txt x.r.e.o.note), .bool x.r.e.none, .slice x.D.a x.D.n x.D.c] ∧ Blk W q 35 #[.int .i64 x.r.bal, .int .i64 x.r.st, .int .i64 x.r.by_, .int .i64 x.r.e.o.c, .int .i64 x.r.e.o.s, .int .i64 x.r.e.o.k, .string (txt x.r.e.o.acct), .string (txt x.r.e.o.peer), .int .i64 x.r.e.o.sum, .slice M.a M.n M.c, .int .i64 x.r.e.o.per, .int .i64 x.r.e.o.hold, .string (txt x.r.e.o.note), .bool x.r.e.none, .slice E.a E.n E.c] ∧ W.rangeAt g (o + j * 17) [.int .i64 x.r.i.r, .int .i64 x.r.i.n] ∧ W.rangeAt g' (o' + j * 17) [.int .i64 x.r.i.r, .int .i64 x.r.i.n] := fun W hM => ⟨hS0.1.mod hM (fun h => h), hS0.2.1.mod hM (fun h => h), rangeAt_mod hS0.2.2.1 hM, rangeAt_mod hS0.2.2.2 hM⟩
        replace hM2 := Lib.hid hM2
        clear hbp hbq hmx hd1 hd2
        go_upto_region 7 with fail
        refine wp_region_held_drew (S := fun W => Blk W p 35 #[.int .i64 x.r.bal, .int .i64 x.r.st, .int .i64 x.r.by_, .int .i64 x.r.e.o.c, .int .i64 x.r.e.o.s, .int .i64 x.r.e.o.k, .string (txt x.r.e.o.acct), .string (txt x.r.e.o.peer), .int .i64 x.r.e.o.sum, .slice x.L.a x.L.n x.L.c, .int .i64 x.r.e.o.per, .int .i64 x.r.e.o.hold, .string (txt x.r.e.o.note), .bool x.r.e.none, .slice x.D.a x.D.n x.D.c] ∧ Blk W q 35 #[.int .i64 x.r.bal, .int .i64 x.r.st, .int .i64 x.r.by_, .int .i64 x.r.e.o.c, .int .i64 x.r.e.o.s, .int .i64 x.r.e.o.k, .string (txt x.r.e.o.acct), .string (txt x.r.e.o.peer), .int .i64 x.r.e.o.sum, .slice M.a M.n M.c, .int .i64 x.r.e.o.per, .int .i64 x.r.e.o.hold, .string (txt x.r.e.o.note), .bool x.r.e.none, .slice E.a E.n E.c] ∧ W.rangeAt g (o + j * 17) [.int .i64 x.r.i.r, .int .i64 x.r.i.n] ∧ W.rangeAt g' (o' + j * 17) [.int .i64 x.r.i.r, .int .i64 x.r.i.n]) (by kernel_rfl) hS0 (fun hHeld => ?_)
        refine wpAnyH_take (i := 0) (v := ?_) rfl (by kernel_rfl) (by kernel_rfl) (by kernel_rfl) (fun _ _ _ h => h) (Or.inl ⟨by rfl, ?_⟩) (by assumption) ?_
        rotate_left
        · intro W hSw; (try dsimp only at hSw); go_simp; (try with_reducible rfl)
        try simp only [Act.put, List.getElem_toArray, List.getElem_cons_zero, List.getElem_cons_succ, List.setIfInBounds_toArray, List.set_cons_zero, List.set_cons_succ]
        refine wpAnyH_take (i := 1) (v := ?_) rfl (by kernel_rfl) (by kernel_rfl) (by kernel_rfl) (fun _ _ _ h => h) (Or.inl ⟨by rfl, ?_⟩) (by assumption) ?_
        rotate_left
        · intro W hSw; (try dsimp only at hSw); go_simp; (try with_reducible rfl)
        try simp only [Act.put, List.getElem_toArray, List.getElem_cons_zero, List.getElem_cons_succ, List.setIfInBounds_toArray, List.set_cons_zero, List.set_cons_succ]
        refine wpAnyH_take (i := 2) (v := ?_) rfl (by kernel_rfl) (by kernel_rfl) (by kernel_rfl) (fun _ _ _ h => h) (Or.inl ⟨by rfl, ?_⟩) (by assumption) ?_
        rotate_left
        · intro W hSw; (try dsimp only at hSw); go_simp; (try with_reducible rfl)
        try simp only [Act.put, List.getElem_toArray, List.getElem_cons_zero, List.getElem_cons_succ, List.setIfInBounds_toArray, List.set_cons_zero, List.set_cons_succ]
        refine wpAnyH_take (i := 3) (v := ?_) rfl (by kernel_rfl) (by kernel_rfl) (by kernel_rfl) (fun _ _ _ h => h) (Or.inl ⟨by rfl, ?_⟩) (by assumption) ?_
        rotate_left
        · intro W hSw; (try dsimp only at hSw); go_simp; (try with_reducible rfl)
        try simp only [Act.put, List.getElem_toArray, List.getElem_cons_zero, List.getElem_cons_succ, List.setIfInBounds_toArray, List.set_cons_zero, List.set_cons_succ]
        refine wpAnyH_take (i := 4) rfl (by kernel_rfl) (by kernel_rfl) (by kernel_rfl) (fun _ _ _ h => h) (yieldsIf_load_mid (by rfl) 25 (.tmp 32) rfl g (o + j * 17) rfl [.int .i64 x.r.i.r, .int .i64 x.r.i.n] _ (fun W hW => hW.2.2.1) Tryz.underlying25 rfl inst_size) (by assumption) ?_
        try simp only [Act.put, List.getElem_toArray, List.getElem_cons_zero, List.getElem_cons_succ, List.setIfInBounds_toArray, List.set_cons_zero, List.set_cons_succ]
        refine wpAnyH_take (i := 5) (v := ?_) rfl (by kernel_rfl) (by kernel_rfl) (by kernel_rfl) (fun _ _ _ h => h) (Or.inl ⟨by rfl, ?_⟩) (by assumption) ?_
        rotate_left
        · intro W hSw; (try dsimp only at hSw); go_simp; (try with_reducible rfl)
        try simp only [Act.put, List.getElem_toArray, List.getElem_cons_zero, List.getElem_cons_succ, List.setIfInBounds_toArray, List.set_cons_zero, List.set_cons_succ]
        refine wpAnyH_take (i := 6) (v := ?_) rfl (by kernel_rfl) (by kernel_rfl) (by kernel_rfl) (fun _ _ _ h => h) (Or.inl ⟨by rfl, ?_⟩) (by assumption) ?_
        rotate_left
        · intro W hSw; (try dsimp only at hSw); go_simp; (try with_reducible rfl)
        try simp only [Act.put, List.getElem_toArray, List.getElem_cons_zero, List.getElem_cons_succ, List.setIfInBounds_toArray, List.set_cons_zero, List.set_cons_succ]
        refine wpAnyH_take (i := 7) (v := ?_) rfl (by kernel_rfl) (by kernel_rfl) (by kernel_rfl) (fun _ _ _ h => h) (Or.inl ⟨by rfl, ?_⟩) (by assumption) ?_
        rotate_left
        · intro W hSw; (try dsimp only at hSw); go_simp; (try with_reducible rfl)
        try simp only [Act.put, List.getElem_toArray, List.getElem_cons_zero, List.getElem_cons_succ, List.setIfInBounds_toArray, List.set_cons_zero, List.set_cons_succ]
        refine wpAnyH_take (i := 8) (v := ?_) rfl (by kernel_rfl) (by kernel_rfl) (by kernel_rfl) (fun _ _ _ h => h) (Or.inl ⟨by rfl, ?_⟩) (by assumption) ?_
        rotate_left
        · intro W hSw; (try dsimp only at hSw); go_simp; (try with_reducible rfl)
        try simp only [Act.put, List.getElem_toArray, List.getElem_cons_zero, List.getElem_cons_succ, List.setIfInBounds_toArray, List.set_cons_zero, List.set_cons_succ]
        refine wpAnyH_take (i := 9) rfl (by kernel_rfl) (by kernel_rfl) (by kernel_rfl) (fun _ _ _ h => h) (yieldsIf_load_mid (by rfl) 25 (.tmp 37) rfl g' (o' + j * 17) rfl [.int .i64 x.r.i.r, .int .i64 x.r.i.n] _ (fun W hW => hW.2.2.2) Tryz.underlying25 rfl inst_size) (by assumption) ?_
        try simp only [Act.put, List.getElem_toArray, List.getElem_cons_zero, List.getElem_cons_succ, List.setIfInBounds_toArray, List.set_cons_zero, List.set_cons_succ]
        refine wpAnyH_take (i := 10) (v := ?_) rfl (by kernel_rfl) (by kernel_rfl) (by kernel_rfl) (fun _ _ _ h => h) (Or.inl ⟨by rfl, ?_⟩) (by assumption) ?_
        rotate_left
        · intro W hSw; (try dsimp only at hSw); go_simp; (try with_reducible rfl)
        try simp only [Act.put, List.getElem_toArray, List.getElem_cons_zero, List.getElem_cons_succ, List.setIfInBounds_toArray, List.set_cons_zero, List.set_cons_succ]
        refine wpAnyH_take (i := 11) (v := ?_) rfl (by kernel_rfl) (by kernel_rfl) (by kernel_rfl) (fun _ _ _ h => h) (Or.inl ⟨by rfl, ?_⟩) (by assumption) ?_
        rotate_left
        · intro W hSw; (try dsimp only at hSw); go_simp; (try with_reducible rfl)
        try simp only [Act.put, List.getElem_toArray, List.getElem_cons_zero, List.getElem_cons_succ, List.setIfInBounds_toArray, List.set_cons_zero, List.set_cons_succ]
        refine wpAnyH_take (i := 12) (v := ?_) rfl (by kernel_rfl) (by kernel_rfl) (by kernel_rfl) (fun _ _ _ h => h) (Or.inl ⟨by rfl, ?_⟩) (by assumption) ?_
        rotate_left
        · intro W hSw; (try dsimp only at hSw); go_simp; (try with_reducible rfl)
        try simp only [Act.put, List.getElem_toArray, List.getElem_cons_zero, List.getElem_cons_succ, List.setIfInBounds_toArray, List.set_cons_zero, List.set_cons_succ]
        refine wpAnyH_take (i := 13) (v := ?_) rfl (by kernel_rfl) (by kernel_rfl) (by kernel_rfl) (fun _ _ _ h => h) (Or.inl ⟨by rfl, ?_⟩) (by assumption) ?_
        rotate_left
        · intro W hSw; have hc := Blk.cell_ hSw.1 (i := 0) rfl; go_simp; (try with_reducible rfl)
        try simp only [Act.put, List.getElem_toArray, List.getElem_cons_zero, List.getElem_cons_succ, List.setIfInBounds_toArray, List.set_cons_zero, List.set_cons_succ]
        refine wpAnyH_take (i := 14) (v := ?_) rfl (by kernel_rfl) (by kernel_rfl) (by kernel_rfl) (fun _ _ _ h => h) (Or.inl ⟨by rfl, ?_⟩) (by assumption) ?_
        rotate_left
        · intro W hSw; (try dsimp only at hSw); go_simp; (try with_reducible rfl)
        try simp only [Act.put, List.getElem_toArray, List.getElem_cons_zero, List.getElem_cons_succ, List.setIfInBounds_toArray, List.set_cons_zero, List.set_cons_succ]
        refine wpAnyH_take (i := 15) (v := ?_) rfl (by kernel_rfl) (by kernel_rfl) (by kernel_rfl) (fun _ _ _ h => h) (Or.inl ⟨by rfl, ?_⟩) (by assumption) ?_
        rotate_left
        · intro W hSw; have hc := Blk.cell_ hSw.2.1 (i := 0) rfl; go_simp; (try with_reducible rfl)
        try simp only [Act.put, List.getElem_toArray, List.getElem_cons_zero, List.getElem_cons_succ, List.setIfInBounds_toArray, List.set_cons_zero, List.set_cons_succ]
        refine wpAnyH_take (i := 16) (v := ?_) rfl (by kernel_rfl) (by kernel_rfl) (by kernel_rfl) (fun _ _ _ h => h) (Or.inl ⟨by rfl, ?_⟩) (by assumption) ?_
        rotate_left
        · intro W hSw; (try dsimp only at hSw); go_simp; (try with_reducible rfl)
        try simp only [Act.put, List.getElem_toArray, List.getElem_cons_zero, List.getElem_cons_succ, List.setIfInBounds_toArray, List.set_cons_zero, List.set_cons_succ]
        refine wpAnyH_take (i := 17) (v := ?_) rfl (by kernel_rfl) (by kernel_rfl) (by kernel_rfl) (fun _ _ _ h => h) (Or.inl ⟨by rfl, ?_⟩) (by assumption) ?_
        rotate_left
        · intro W hSw; (try dsimp only at hSw); go_simp; (try with_reducible rfl)
        try simp only [Act.put, List.getElem_toArray, List.getElem_cons_zero, List.getElem_cons_succ, List.setIfInBounds_toArray, List.set_cons_zero, List.set_cons_succ]
        refine wpAnyH_take (i := 18) (v := ?_) rfl (by kernel_rfl) (by kernel_rfl) (by kernel_rfl) (fun _ _ _ h => h) (Or.inl ⟨by rfl, ?_⟩) (by assumption) ?_
        rotate_left
        · intro W hSw; (try dsimp only at hSw); go_simp; (try with_reducible rfl)
        try simp only [Act.put, List.getElem_toArray, List.getElem_cons_zero, List.getElem_cons_succ, List.setIfInBounds_toArray, List.set_cons_zero, List.set_cons_succ]
        refine wpAnyH_take (i := 19) (v := ?_) rfl (by kernel_rfl) (by kernel_rfl) (by kernel_rfl) (fun _ _ _ h => h) (Or.inl ⟨by rfl, ?_⟩) (by assumption) ?_
        rotate_left
        · intro W hSw; (try dsimp only at hSw); go_simp; (try with_reducible rfl)
        try simp only [Act.put, List.getElem_toArray, List.getElem_cons_zero, List.getElem_cons_succ, List.setIfInBounds_toArray, List.set_cons_zero, List.set_cons_succ]
        refine wpAnyH_take (i := 20) (v := ?_) rfl (by kernel_rfl) (by kernel_rfl) (by kernel_rfl) (fun _ _ _ h => h) (Or.inl ⟨by rfl, ?_⟩) (by assumption) ?_
        rotate_left
        · intro W hSw; have hc := Blk.cell_ hSw.1 (i := 1) rfl; go_simp; (try with_reducible rfl)
        try simp only [Act.put, List.getElem_toArray, List.getElem_cons_zero, List.getElem_cons_succ, List.setIfInBounds_toArray, List.set_cons_zero, List.set_cons_succ]
        refine wpAnyH_take (i := 21) (v := ?_) rfl (by kernel_rfl) (by kernel_rfl) (by kernel_rfl) (fun _ _ _ h => h) (Or.inl ⟨by rfl, ?_⟩) (by assumption) ?_
        rotate_left
        · intro W hSw; (try dsimp only at hSw); go_simp; (try with_reducible rfl)
        try simp only [Act.put, List.getElem_toArray, List.getElem_cons_zero, List.getElem_cons_succ, List.setIfInBounds_toArray, List.set_cons_zero, List.set_cons_succ]
        refine wpAnyH_take (i := 22) (v := ?_) rfl (by kernel_rfl) (by kernel_rfl) (by kernel_rfl) (fun _ _ _ h => h) (Or.inl ⟨by rfl, ?_⟩) (by assumption) ?_
        rotate_left
        · intro W hSw; have hc := Blk.cell_ hSw.2.1 (i := 1) rfl; go_simp; (try with_reducible rfl)
        try simp only [Act.put, List.getElem_toArray, List.getElem_cons_zero, List.getElem_cons_succ, List.setIfInBounds_toArray, List.set_cons_zero, List.set_cons_succ]
        refine wpAnyH_take (i := 23) (v := ?_) rfl (by kernel_rfl) (by kernel_rfl) (by kernel_rfl) (fun _ _ _ h => h) (Or.inl ⟨by rfl, ?_⟩) (by assumption) ?_
        rotate_left
        · intro W hSw; (try dsimp only at hSw); go_simp; (try with_reducible rfl)
        try simp only [Act.put, List.getElem_toArray, List.getElem_cons_zero, List.getElem_cons_succ, List.setIfInBounds_toArray, List.set_cons_zero, List.set_cons_succ]
        refine wpAnyH_take (i := 24) (v := ?_) rfl (by kernel_rfl) (by kernel_rfl) (by kernel_rfl) (fun _ _ _ h => h) (Or.inl ⟨by rfl, ?_⟩) (by assumption) ?_
        rotate_left
        · intro W hSw; (try dsimp only at hSw); go_simp; (try with_reducible rfl)
        try simp only [Act.put, List.getElem_toArray, List.getElem_cons_zero, List.getElem_cons_succ, List.setIfInBounds_toArray, List.set_cons_zero, List.set_cons_succ]
        refine wpAnyH_take (i := 25) (v := ?_) rfl (by kernel_rfl) (by kernel_rfl) (by kernel_rfl) (fun _ _ _ h => h) (Or.inl ⟨by rfl, ?_⟩) (by assumption) ?_
        rotate_left
        · intro W hSw; (try dsimp only at hSw); go_simp; (try with_reducible rfl)
        try simp only [Act.put, List.getElem_toArray, List.getElem_cons_zero, List.getElem_cons_succ, List.setIfInBounds_toArray, List.set_cons_zero, List.set_cons_succ]
        refine wpAnyH_take (i := 26) (v := ?_) rfl (by kernel_rfl) (by kernel_rfl) (by kernel_rfl) (fun _ _ _ h => h) (Or.inl ⟨by rfl, ?_⟩) (by assumption) ?_
        rotate_left
        · intro W hSw; (try dsimp only at hSw); go_simp; (try with_reducible rfl)
        try simp only [Act.put, List.getElem_toArray, List.getElem_cons_zero, List.getElem_cons_succ, List.setIfInBounds_toArray, List.set_cons_zero, List.set_cons_succ]
        refine wpAnyH_take (i := 27) (v := ?_) rfl (by kernel_rfl) (by kernel_rfl) (by kernel_rfl) (fun _ _ _ h => h) (Or.inl ⟨by rfl, ?_⟩) (by assumption) ?_
        rotate_left
        · intro W hSw; have hc := Blk.cell_ hSw.1 (i := 2) rfl; go_simp; (try with_reducible rfl)
        try simp only [Act.put, List.getElem_toArray, List.getElem_cons_zero, List.getElem_cons_succ, List.setIfInBounds_toArray, List.set_cons_zero, List.set_cons_succ]
        refine wpAnyH_take (i := 28) (v := ?_) rfl (by kernel_rfl) (by kernel_rfl) (by kernel_rfl) (fun _ _ _ h => h) (Or.inl ⟨by rfl, ?_⟩) (by assumption) ?_
        rotate_left
        · intro W hSw; (try dsimp only at hSw); go_simp; (try with_reducible rfl)
        try simp only [Act.put, List.getElem_toArray, List.getElem_cons_zero, List.getElem_cons_succ, List.setIfInBounds_toArray, List.set_cons_zero, List.set_cons_succ]
        refine wpAnyH_take (i := 29) (v := ?_) rfl (by kernel_rfl) (by kernel_rfl) (by kernel_rfl) (fun _ _ _ h => h) (Or.inl ⟨by rfl, ?_⟩) (by assumption) ?_
        rotate_left
        · intro W hSw; have hc := Blk.cell_ hSw.2.1 (i := 2) rfl; go_simp; (try with_reducible rfl)
        try simp only [Act.put, List.getElem_toArray, List.getElem_cons_zero, List.getElem_cons_succ, List.setIfInBounds_toArray, List.set_cons_zero, List.set_cons_succ]
        refine wpAnyH_take (i := 30) (v := ?_) rfl (by kernel_rfl) (by kernel_rfl) (by kernel_rfl) (fun _ _ _ h => h) (Or.inl ⟨by rfl, ?_⟩) (by assumption) ?_
        rotate_left
        · intro W hSw; (try dsimp only at hSw); go_simp; (try with_reducible rfl)
        try simp only [Act.put, List.getElem_toArray, List.getElem_cons_zero, List.getElem_cons_succ, List.setIfInBounds_toArray, List.set_cons_zero, List.set_cons_succ]
        refine wpAnyH_take (i := 31) (v := ?_) rfl (by kernel_rfl) (by kernel_rfl) (by kernel_rfl) (fun _ _ _ h => h) (Or.inl ⟨by rfl, ?_⟩) (by assumption) ?_
        rotate_left
        · intro W hSw; (try dsimp only at hSw); go_simp; (try with_reducible rfl)
        try simp only [Act.put, List.getElem_toArray, List.getElem_cons_zero, List.getElem_cons_succ, List.setIfInBounds_toArray, List.set_cons_zero, List.set_cons_succ]
        refine wpAnyH_take (i := 32) (v := ?_) rfl (by kernel_rfl) (by kernel_rfl) (by kernel_rfl) (fun _ _ _ h => h) (Or.inl ⟨by rfl, ?_⟩) (by assumption) ?_
        rotate_left
        · intro W hSw; (try dsimp only at hSw); go_simp; (try with_reducible rfl)
        try simp only [Act.put, List.getElem_toArray, List.getElem_cons_zero, List.getElem_cons_succ, List.setIfInBounds_toArray, List.set_cons_zero, List.set_cons_succ]
        refine wpAnyH_take (i := 33) (v := ?_) rfl (by kernel_rfl) (by kernel_rfl) (by kernel_rfl) (fun _ _ _ h => h) (Or.inl ⟨by rfl, ?_⟩) (by assumption) ?_
        rotate_left
        · intro W hSw; (try dsimp only at hSw); go_simp; (try with_reducible rfl)
        try simp only [Act.put, List.getElem_toArray, List.getElem_cons_zero, List.getElem_cons_succ, List.setIfInBounds_toArray, List.set_cons_zero, List.set_cons_succ]
        refine wpAnyH_take (i := 34) rfl (by kernel_rfl) (by kernel_rfl) (by kernel_rfl) (fun _ _ _ h => h) (yieldsIf_load_mid (by rfl) 33 (.tmp 62) rfl p 3 rfl [.int .i64 x.r.e.o.c, .int .i64 x.r.e.o.s, .int .i64 x.r.e.o.k, .string (txt x.r.e.o.acct), .string (txt x.r.e.o.peer), .int .i64 x.r.e.o.sum, .slice x.L.a x.L.n x.L.c, .int .i64 x.r.e.o.per, .int .i64 x.r.e.o.hold, .string (txt x.r.e.o.note), .bool x.r.e.none, .slice x.D.a x.D.n x.D.c] _ (fun W hW => Blk.range hW.1 3 _ rfl) Tryz.underlying33 rfl entry_size) (by assumption) ?_
        try simp only [Act.put, List.getElem_toArray, List.getElem_cons_zero, List.getElem_cons_succ, List.setIfInBounds_toArray, List.set_cons_zero, List.set_cons_succ]
        refine wpAnyH_take (i := 35) (v := ?_) rfl (by kernel_rfl) (by kernel_rfl) (by kernel_rfl) (fun _ _ _ h => h) (Or.inl ⟨by rfl, ?_⟩) (by assumption) ?_
        rotate_left
        · intro W hSw; (try dsimp only at hSw); go_simp; (try with_reducible rfl)
        try simp only [Act.put, List.getElem_toArray, List.getElem_cons_zero, List.getElem_cons_succ, List.setIfInBounds_toArray, List.set_cons_zero, List.set_cons_succ]
        refine wpAnyH_take (i := 36) rfl (by kernel_rfl) (by kernel_rfl) (by kernel_rfl) (fun _ _ _ h => h) (yieldsIf_load_mid (by rfl) 33 (.tmp 64) rfl q (3) rfl [.int .i64 x.r.e.o.c, .int .i64 x.r.e.o.s, .int .i64 x.r.e.o.k, .string (txt x.r.e.o.acct), .string (txt x.r.e.o.peer), .int .i64 x.r.e.o.sum, .slice M.a M.n M.c, .int .i64 x.r.e.o.per, .int .i64 x.r.e.o.hold, .string (txt x.r.e.o.note), .bool x.r.e.none, .slice E.a E.n E.c] _ (fun W hW => Blk.range hW.2.1 3 _ rfl) Tryz.underlying33 rfl entry_size) (by assumption) ?_
        try simp only [Act.put, List.getElem_toArray, List.getElem_cons_zero, List.getElem_cons_succ, List.setIfInBounds_toArray, List.set_cons_zero, List.set_cons_succ]
        refine wpAnyH_ready (rs := [37]) (by kernel_rfl) (by simp) ?_
        refine AllReadyH.cons rfl (fun K hK => ?_) AllReadyH.nil
        go_simp
        (with_reducible refine k14.out.mono ?_); rintro e w6 ⟨rfl, hm6⟩; dsimp only
        have hS6 := hSm _ hm6
        have hM6 := Lib.hid (hM2.out.trans ((Mod.refl none_ wc).drew.trans hm6))
        clear hm6
        go_wp2_with fail
        refine hK.out _ _ (hS6) (fun hHeld => ?_)
        clear hK K
        try simp only [Act.put, List.getElem_toArray, List.getElem_cons_zero, List.getElem_cons_succ, List.setIfInBounds_toArray, List.set_cons_zero, List.set_cons_succ]
        refine wpAnyH_take (i := 38) (v := ?_) rfl (by kernel_rfl) (by kernel_rfl) (by kernel_rfl) (fun _ _ _ h => h) (Or.inl ⟨by rfl, ?_⟩) (by assumption) ?_
        rotate_left
        · intro W hSw; (try dsimp only at hSw); go_simp; (try with_reducible rfl)
        try simp only [Act.put, List.getElem_toArray, List.getElem_cons_zero, List.getElem_cons_succ, List.setIfInBounds_toArray, List.set_cons_zero, List.set_cons_succ]
        refine wpAnyH_take (i := 39) (v := ?_) rfl (by kernel_rfl) (by kernel_rfl) (by kernel_rfl) (fun _ _ _ h => h) (Or.inl ⟨by rfl, ?_⟩) (by assumption) ?_
        rotate_left
        · intro W hSw; (try dsimp only at hSw); go_simp; (try with_reducible rfl)
        try simp only [Act.put, List.getElem_toArray, List.getElem_cons_zero, List.getElem_cons_succ, List.setIfInBounds_toArray, List.set_cons_zero, List.set_cons_succ]
        refine wpAnyH_done (by kernel_rfl) ?_ _
        clear hHeld hS0 hS6 hSm
        go_wp2_with fail
        go_roundg (gk - 1)
        case measure => omega
        case rel => exact ⟨j + 1, by go_num, by omega, hM6.out⟩
    · obtain rfl : j = m := by omega
      replace hm := Lib.hid hm
      go_wp2_with fail
      go_ret
      exact ⟨rfl, hm.out⟩
end Go.Proofs.YtimlfdihodoolaaGreat
