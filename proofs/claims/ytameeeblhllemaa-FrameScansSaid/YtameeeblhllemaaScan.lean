/-
  The contract of frame.Scan. No condition.
-/
import Derived.Test.YtameeeblhllemaaScanM
import Derived.Test.YtameeeblhllemaaLst
import Derived.Test.YtameeeblhllemaaClone
import Derived.Deep.DeepCutAuto
namespace Go.Proofs.Ytameeeblhllemaa
open Go.RowKit

theorem or_i64 (a b : Nat) (ha : a < 256) (hb : b < 256) : bits .or .i64 (a : Int) ((b : Int) * 256) = ((a + 256 * b : Nat) : Int) := by
  have := bo_i64 a (b * 256) (by omega) (by omega)
  rw [Nat.or_comm, show b * 256 = b * 2 ^ 8 from rfl, or_add b a 8 (by omega)] at this
  rw [Int.natCast_mul] at this
  rw [show ((b : Int) * 256) = (b : Int) * ((2 ^ 8 : Nat) : Int) from rfl, this]
  omega
theorem or_u32 (a b k : Nat) (hk : k < 32) (ha : a < 2 ^ k) (hb : b * 2 ^ k < 4294967296) : bits .or .u32 (a : Int) ((b : Int) * ((2 ^ k : Nat) : Int)) = ((a + b * 2 ^ k : Nat) : Int) := by
  have h2 : (2 : Nat) ^ k ≤ 2 ^ 31 := Nat.pow_le_pow_right (by omega) (by omega)
  have := bo32 a (b * 2 ^ k) (by omega) hb
  rw [Nat.or_comm, or_add b a k ha, Int.natCast_mul] at this
  rw [this]
  omega
theorem ret3 {a a' : Value} {x x' : Int} {y y' : Int} (h1 : a = a') (h2 : x = x') (h3 : y = y') : Ending.returned (.tuple #[a, .int .i64 x, .int .i64 y]) = .returned (.tuple #[a', .int .i64 x', .int .i64 y']) := by rw [h1, h2, h3]

def ScanRel (w : World) (b : List UInt8) (k : Nat) (v : Value) (wr : World) : Prop :=
  ∃ LA n c ss L, v = .slice LA n c ∧ Lst wr LA n c ss L ∧ (∀ i, fp LA i → w.heap.size ≤ i) ∧ ScanAt b k L ∧ Mod none_ w wr ∧ n ≤ k
/-- What Scan hands back. -/
def ScanPost (w : World) (b : List UInt8) (e : Ending) (w' : World) : Prop :=
  ∃ LA n c ss, e = .returned (.tuple #[.slice LA n c, .int .i64 ((scan b).2.1 : Nat), .int .i64 ((scan b).2.2 : Nat)]) ∧ Lst w' LA n c ss (scan b).1 ∧ (∀ i, fp LA i → w.heap.size ≤ i) ∧ Mod none_ w w'

theorem RdB.drewN_ {w : World} {A : Option Addr} {n : Nat} {l : List UInt8} (h : RdB w A n l) (k : Nat) : RdB (w.drewN k) A n l := h
theorem scan_end {w w' : World} {b : List UInt8} {LA : Option Addr} {m lc k ee : Nat} {ss : List SV} {L : List (List UInt8)} {x : Int} (hst : scan b = (L, k, ee)) (hL : Lst w' LA m lc ss L) (hLA : ∀ i, fp LA i → w.heap.size ≤ i) (hm : Mod none_ w w') (he : x = (ee : Int)) :
    ScanPost w b (.returned (.tuple #[.slice LA m lc, .int .i64 (k : Int), .int .i64 x])) w' :=
  ⟨LA, m, lc, ss, by rw [hst, he], by rw [hst]; exact hL, hLA, hm⟩
theorem rdb_sub {w : World} {g O q nm : Nat} {r : List UInt8} (hget : ∀ i, i < q → w.cell? ⟨g, O + i, none⟩ = some (.int .u8 ((r.getD i 0).toNat : Int))) (hr : r.length = q) (h : 6 + nm ≤ q) : RdB w (some ⟨g, O + 6, none⟩) nm ((r.drop 6).take nm) := by
  have hl : ((r.drop 6).take nm).length = nm := by rw [List.length_take, List.length_drop]; omega
  refine ⟨by rw [bvs_length, hl]; omega, fun _ => ⟨_, rfl, fun j u hu => ?_⟩⟩
  have hj : j < nm := by
    rcases Nat.lt_or_ge j nm with h1 | h1
    · exact h1
    · rw [List.getElem?_eq_none (by rw [bvs_length, hl]; exact h1)] at hu; cases hu
  rw [bvs_get (by rw [hl]; exact hj)] at hu
  have e : (⟨g, O + 6, none⟩ : Addr).add j = ⟨g, O + (6 + j), none⟩ := by unfold Addr.add; split <;> simp_all [Nat.add_assoc]
  rw [e, hget (6 + j) (by omega), ← hu]
  have : r.getD (6 + j) 0 = ((r.drop 6).take nm)[j]'(by rw [hl]; exact hj) := by
    simp [List.getD, List.getElem?_eq_getElem (show 6 + j < r.length by omega)]
  rw [this]

set_option maxRecDepth 100000 in
set_option maxHeartbeats 2000000 in
theorem scan_ok (w : World) (A : Option Addr) (n c : Nat) (b : List UInt8) (h : RdB w A n b) (hn : n ≤ c) (hc : c ≤ 9223372036854775807) (hs : n ≤ 1000000) : Calls Try.prog 19 #[.slice A n c] w fun e w' => ScanPost w b e w' := by
  have hl := Lib.hid h.len
  have H := Lib.hid h
  obtain ⟨i0, hi, hz0, hz1, hz2⟩ := info_parts slinfo
  clear h
  go_enter Try.func19, Try.ntmps19
  go_wp2_with fail
  go_step3
  go_wp2_with fail
  go_step3
  go_wp2_with fail
  go_loopw [5, 6, 7] (fun v i e wr => ∃ k : Nat, i = .int .i64 k ∧ e = .int .i64 0 ∧ ScanRel w b k v wr ∧ k ≤ n) (fun _ i _ _ => n - (intOf i).toNat)
  case atStart => exact ⟨0, rfl, rfl, ⟨none, 0, 0, [], [], rfl, Lst.nil w, (fun k hk => by obtain ⟨a, ha, _⟩ := hk; cases ha), ScanAt.zero b, Mod.refl _ w, by omega⟩, by omega⟩
  case round =>
    obtain ⟨k, rfl, rfl, ⟨LA, m, lc, ss, L, rfl, hL, hLA, hsc, hm, hmk⟩, hk⟩ := hrel
    replace hL := Lib.hid hL
    replace hLA := Lib.hid hLA
    replace hsc := Lib.hid hsc
    by_cases hlt : k < n
    · obtain ⟨g, o, rfl, hcell⟩ := (H.out.mod0 hm).form (by omega) (by omega)
      replace hm := Lib.hid hm
      have hlb : b.length = n := hl.out
      obtain ⟨q, rfl⟩ : ∃ q, n = k + q := ⟨n - k, by omega⟩
      obtain ⟨d, rfl⟩ : ∃ d, c = k + d := ⟨c - k, by omega⟩
      have hql : (b.drop k).length = q := by rw [List.length_drop]; omega
      have hget : ∀ i, i < q → wr.cell? ⟨g, o + k + i, none⟩ = some (.int .u8 (((b.drop k).getD i 0).toNat : Int)) := by
        intro i hi
        have h1 : k + i < b.length := by omega
        have := hcell (k + i) _ (bvs_get h1)
        rw [← Nat.add_assoc] at this
        rw [this]
        have e : (b.drop k).getD i 0 = b[k + i] := by simp [List.getD, h1]
        rw [e]
      generalize hr : b.drop k = r at *
      replace hr := Lib.hid hr
      replace hlb := Lib.hid hlb
      have hql := Lib.hid hql
      by_cases hq2 : q < 2
      · have hst := hsc.out.stop (by have := hlb.out; omega) (by rw [hr.out, stop_short (by have := hql.out; omega)]; omega)
        rw [hr.out, stop_short (by have := hql.out; omega)] at hst
        replace hst := Lib.hid hst
        clear hcell hget
        go_wp2
        rw [Exit.noGoto_ret]
        go_ret3
        exact scan_end hst.out hL.out hLA.out (hm.out) rfl
      · have b0 := hget 0 (by omega)
        have b1 := hget 1 (by omega)
        rw [Nat.add_zero] at b0
        have l0 := (r.getD 0 0).toNat_lt
        have l1 := (r.getD 1 0).toNat_lt
        have hnum : num r = (r.getD 0 0).toNat + 256 * (r.getD 1 0).toNat := rfl
        have hor := or_i64 _ _ l0 l1
        rw [← hnum] at hor
        have hnl : num r < 65536 := by omega
        replace hnum := Lib.hid hnum
        generalize (r.getD 0 0).toNat = x0 at *
        generalize (r.getD 1 0).toNat = x1 at *
        obtain ⟨nm, hnm⟩ : ∃ nm, nm = num r := ⟨_, rfl⟩
        rw [← hnm] at hor hnl hnum
        replace hnm := Lib.hid hnm
        by_cases hbad : nm < 1 ∨ 4096 < nm
        · have hse : stopE r = 3 := stop_num (by have := hql.out; omega) (by rw [← hnm.out]; exact hbad)
          have hst := hsc.out.stop (by have := hlb.out; omega) (by rw [hr.out, hse]; omega)
          rw [hr.out, hse] at hst
          replace hst := Lib.hid hst
          have hbad' := Lib.hid (show (nm : Int) < 1 ∨ 4096 < (nm : Int) by omega)
          clear hcell hget hse hbad
          go_wp2_with (first | go_quiet (fail) | (go_at_call 22; refine (fits_no _ _ hbad'.out).mono ?_; rintro e w1 ⟨rfl, rfl⟩))
          rw [Exit.noGoto_ret]
          go_ret3
          exact scan_end hst.out (hL.out.mod0 ((Mod.refl _ wr).drewN _)) hLA.out (hm.out.drewN _) rfl
        · have g1 : 1 ≤ nm := by omega
          have g2 : nm ≤ 4096 := by omega
          by_cases htorn : q < 6 + nm
          · have hse : stopE r = 4 := stop_torn (by have := hql.out; omega) (by rw [← hnm.out]; exact hbad) (by rw [← hnm.out, hql.out]; exact htorn)
            have hst := hsc.out.stop (by have := hlb.out; omega) (by rw [hr.out, hse]; omega)
            rw [hr.out, hse] at hst
            replace hst := Lib.hid hst
            clear hcell hget hse hbad
            go_wp2_with (first | go_quiet (fail) | (go_at_call 22; refine (fits_yes _ _ (by omega) (by omega)).mono ?_; rintro e w1 ⟨rfl, rfl⟩))
            rw [Exit.noGoto_ret]
            go_ret3
            exact scan_end hst.out (hL.out.mod0 ((Mod.refl _ wr).drewN _)) hLA.out (hm.out.drewN _) rfl
          · have b2 := hget 2 (by omega)
            have b3 := hget 3 (by omega)
            have b4 := hget 4 (by omega)
            have b5 := hget 5 (by omega)
            have hbody : RdB wr (some ⟨g, o + k + 6, none⟩) nm (body r) := by
              unfold body
              rw [← hnm.out]
              exact rdb_sub hget hql.out (by omega)
            replace hbody := Lib.hid hbody
            clear hcell hget
            have hse : crc (body r) = sumOf r → stopE r = 0 := fun he => stop_no (by have := hql.out; omega) (by rw [← hnm.out]; exact hbad) (by rw [← hnm.out, hql.out]; exact htorn) he
            have hse3 : crc (body r) ≠ sumOf r → stopE r = 3 := fun he => stop_sum (by have := hql.out; omega) (by rw [← hnm.out]; exact hbad) (by rw [← hnm.out, hql.out]; exact htorn) he
            clear hbad
            replace hse := Lib.hid hse
            replace hse3 := Lib.hid hse3
            have l2 := (r.getD 2 0).toNat_lt
            have l3 := (r.getD 3 0).toNat_lt
            have l4 := (r.getD 4 0).toNat_lt
            have l5 := (r.getD 5 0).toNat_lt
            have hsum : sumOf r = (r.getD 2 0).toNat + 256 * (r.getD 3 0).toNat + 65536 * (r.getD 4 0).toNat + 16777216 * (r.getD 5 0).toNat := rfl
            replace hsum := Lib.hid hsum
            generalize (r.getD 2 0).toNat = x2 at *
            generalize (r.getD 3 0).toNat = x3 at *
            generalize (r.getD 4 0).toNat = x4 at *
            generalize (r.getD 5 0).toNat = x5 at *
            have o1 : bits .or .u32 (x2 : Int) ((x3 : Int) * 256) = ((x2 + x3 * 256 : Nat) : Int) := or_u32 x2 x3 8 (by omega) (by omega) (by omega)
            have o2 : bits .or .u32 ((x2 + x3 * 256 : Nat) : Int) ((x4 : Int) * 65536) = ((x2 + x3 * 256 + x4 * 65536 : Nat) : Int) := or_u32 (x2 + x3 * 256) x4 16 (by omega) (by omega) (by omega)
            have o3 : bits .or .u32 ((x2 + x3 * 256 + x4 * 65536 : Nat) : Int) ((x5 : Int) * 16777216) = ((x2 + x3 * 256 + x4 * 65536 + x5 * 16777216 : Nat) : Int) := or_u32 (x2 + x3 * 256 + x4 * 65536) x5 24 (by omega) (by omega) (by omega)
            have hsv : ((x2 + x3 * 256 + x4 * 65536 + x5 * 16777216 : Nat) : Int) = (sumOf r : Int) := by rw [hsum.out]; omega
            rw [hsv] at o3
            clear hsv
            generalize x2 + x3 * 256 + x4 * 65536 = y2 at *
            generalize x2 + x3 * 256 = y1 at *
            go_upto_region 17 with (first | go_quiet (fail) | (go_at_call 22; refine (fits_yes _ _ (by omega) (by omega)).mono ?_; rintro e w1 ⟨rfl, rfl⟩))
            clear o1 o2 o3 b0 b1 b2 b3 b4 b5 hor l0 l1 l2 l3 l4 l5
            go_wp2_with fail
            (with_reducible refine (sum_ok _ _ _ _ (body r) (RdB.drewN_ hbody.out _) (by omega)).mono ?_)
            rintro e w2 ⟨rfl, hm2⟩
            by_cases hcs : crc (body r) = sumOf r
            · have e1 : ((crc (body r) : Int) != (sumOf r : Int)) = false := by rw [hcs]; simp
              have hgo := hsc.out.go (by have := hlb.out; omega) (by rw [hr.out]; exact hse.out hcs)
              rw [hr.out, ← hnm.out] at hgo
              replace hgo := Lib.hid hgo
              replace hcs := Lib.hid hcs
              have hm3 := Lib.hid ((hm.out.drewN _).trans hm2)
              have hL3 := Lib.hid ((hL.out.mod0 ((Mod.refl _ wr).drewN _)).mod0 hm2)
              have hb3' : RdB w2 (some ⟨g, o + k + 6, none⟩) nm (body r) := Rd.mod0 (RdB.drewN_ hbody.out _) hm2
              have hb3 := Lib.hid hb3'
              clear hb3'
              clear hm2
              go_wp2_with fail
              (with_reducible refine (clone_b _ (body r) _ _ _ hb3.out (by omega)).mono ?_)
              rintro e w4 ⟨B4, b4, rfl, ho4, hf4, hm4⟩
              have hm5 := Lib.hid (hm3.out.trans hm4)
              have hL5 := Lib.hid (hL3.out.mod0 hm4)
              have ht : Txt1 (w4.alloc (.cells #[.slice B4 nm b4] 22)) LA ⟨B4, nm, b4⟩ (body r) := by
                refine ⟨Rd.alloc ho4.rd _, ho4.2.1, by have := ho4.2.2.1; simpa [maxLen] using this, fun _ k hk => ⟨?_, ?_⟩⟩
                · have := ho4.lt k hk; simp; omega
                · exact Fresh.apart hf4 (fun k hk => hL3.out.1.lt k hk) k hk
              replace ht := Lib.hid ht
              clear ho4 hf4 hm4
              go_wp2_with (at_builtin; refine wpList_append_ow rfl (.tmp 76) (.tmp 79) 23 rfl 22 i0 _ 1 24 Try.underlying23 hi hz0 hz1 hz2 rfl (by omega) LA m lc (ss.map SV.v) rfl (hL5.out.1.mod0 ((Mod.refl none_ w4).alloc _)) (some ⟨w4.heap.size, 0, none⟩) 1 1 [.slice B4 nm b4] rfl (rdn w4 _ 1 1 _ _ (0, 0) rfl rfl) (by simp [Value.oneCell']) (by omega) (by omega) ?_; intro A5 c5 w5 hown5 hmod5 hA5)
              have hA5' : A5 = LA ∨ ∃ g, A5 = some ⟨g, 0, none⟩ ∧ (w4.alloc (.cells #[.slice B4 nm b4] 22)).heap.size ≤ g := by
                rcases hA5 with h | h
                · exact .inl h
                · exact .inr ⟨_, h, by simp⟩
              have hL6 := (hL5.out.mod0 ((Mod.refl none_ w4).alloc _)).push ht.out hown5 hmod5 hA5'
              have hLA6 : ∀ i, fp A5 i → w.heap.size ≤ i := by
                rintro i ⟨a, ha, rfl⟩
                rcases hA5 with rfl | rfl
                · exact hLA.out _ ⟨a, ha, rfl⟩
                · cases ha; have := hm5.out.size; simp; omega
              have hm6 : Mod none_ w w5 := (hm5.out.alloc _).then hmod5 fun i hi hf => by have := hLA.out i hf; omega
              have hnext : ScanRel w b (k + (6 + nm)) (.slice A5 (m + 1) c5) w5 := ⟨A5, m + 1, c5, _, _, rfl, hL6, hLA6, hgo.out, hm6, by omega⟩
              replace hnext := Lib.hid hnext
              clear hL6 hLA6 hm6 hA5 hA5' hown5 hmod5
              go_wp2
              go_roundw
              case rel => exact ⟨k + (6 + nm), by go_num, rfl, hnext.out, by omega⟩
              case measure => simp [intOf]; omega
            · have e1 : ((crc (body r) : Int) != (sumOf r : Int)) = true := by simp; omega
              have hse := hse3.out hcs
              have hst := hsc.out.stop (by have := hlb.out; omega) (by rw [hr.out, hse]; omega)
              rw [hr.out, hse] at hst
              replace hst := Lib.hid hst
              replace hcs := Lib.hid hcs
              have hm3 := Lib.hid ((hm.out.drewN _).trans hm2)
              have hL3 := Lib.hid ((hL.out.mod0 ((Mod.refl _ wr).drewN _)).mod0 hm2)
              clear hse hm2
              go_wp2
              rw [Exit.noGoto_ret]
              go_ret3
              exact scan_end hst.out hL3.out hLA.out hm3.out rfl
    · have hst := hsc.out.done (by have := hl.out; omega)
      replace hst := Lib.hid hst
      replace hm := Lib.hid hm
      go_wp2
      rw [Exit.noGoto_ret]
      go_ret3
      exact scan_end hst.out hL.out hLA.out (hm.out) rfl
end Go.Proofs.Ytameeeblhllemaa
