import Derived.Test.YtdnbclhidpkpgaaGreatLp1
import Derived.Test.YtdnbclhidpkpgaaGreatRows
import Derived.Test.YtdnbclhidpkpgaaGreatLp10
import Derived.Deep.DeepCutAuto
import Derived.Test.YtdnbclhidpkpgaaGreatLp9
/-
  The contract of slices.Clone at bytes. No condition.
-/
namespace Go.Proofs.YtdnbclhidpkpgaaGreat
set_option linter.unusedVariables false
set_option linter.unusedSimpArgs false
open Go.RowKit
theorem u8info' : (Tryz.prog.info? 5).map (fun i => (i.zero, i.size, i.bytes)) = some (some (.int .u8 0), 1, 1) := by kernel_rfl
theorem clone_b (w : World) (l : List UInt8) (B : Option Addr) (n d : Nat) (h : RdB w B n l) (hn : n ≤ 140737488351232) : Calls Tryz.prog 50 #[.slice B n d] w fun e w' =>
    ∃ A' c', e = .returned (.slice A' n c') ∧ OwB w' 5 A' n c' l ∧ Fresh w A' ∧ Mod none_ w w' := by
  obtain ⟨i0, hi, hz0, hz1, hz2⟩ := info_parts u8info'
  have hq := fun (w : World) (a : Option Addr) (n c : Nat) => Lib.run_eql_slice_nil (P := Tryz.prog) w 22 _ a n c 0 0 Tryz.underlying22
  rcases B with _ | a
  · have hl : l = [] := by
      rcases Nat.eq_zero_or_pos n with h0 | h0
      · exact List.eq_nil_of_length_eq_zero (by rw [h.len, h0])
      · obtain ⟨ad, h, _⟩ := h.2 h0; cases h
    have hn0 : n = 0 := by rw [← h.len, hl]; rfl
    subst hl hn0
    clear h hn
    go_enter Tryz.func50, Tryz.ntmps50
    go_wp2
    go_ret
    exact ⟨none, 0, rfl, Ow.nil _ _ _, (fun _ h => by cases h), Mod.refl _ _⟩
  · go_enter Tryz.func50, Tryz.ntmps50
    go_wp2_with (at_builtin; refine wpList_append_ow rfl (.tmp 5) (.tmp 6) 22 rfl 5 i0 _ 1 1 Tryz.underlying22 hi hz0 hz1 hz2 rfl (by omega) (some ⟨w.heap.size, 0, none⟩) 0 0 [] rfl ?_ (some a) n d (bvs l) rfl ?_ (bvs_one l) (by omega) (by omega) ?_)
    · exact Ow.new w _ 1 0 #[] (Nat.zero_le _) rfl
    · exact Rd.alloc h _
    · intro A' c' w1 hown hmod hA'
      go_wp2
      go_ret
      refine ⟨A', c', rfl, hown, ?_, ((Mod.refl none_ w).alloc (.cells #[] 5)).then hmod ?_⟩
      · rintro b hb
        rcases hA' with rfl | rfl <;> cases hb <;> simp
      · rintro k hk ⟨b, hb, rfl⟩
        cases hb
        simp at hk
end Go.Proofs.YtdnbclhidpkpgaaGreat
/-
  The contract of frame.Scan. No condition.
-/
namespace Go.Proofs.YtdnbclhidpkpgaaGreat
set_option linter.unusedVariables false
set_option linter.unusedSimpArgs false
open Go.RowKit

theorem or_i64 (a b : Nat) (ha : a < 256) (hb : b < 256) : bits .or .i64 (a : Int) ((b : Int) * 256) = ((a + 256 * b : Nat) : Int) := by
  have := bo_i64 a (b * 256) (by omega) (by omega)
  rw [Nat.or_comm, show b * 256 = b * 2 ^ 8 from rfl, or_add b a 8 (by omega)] at this
  rw [Int.natCast_mul] at this
  rw [show ((b : Int) * 256) = (b : Int) * ((2 ^ 8 : Nat) : Int) from rfl, this]
  omega
theorem or_u32 (a b k : Nat) (hk : k < 32) (ha : a < 2 ^ k) (hb : b * 2 ^ k < 4294967296) : bits .or .u32 (a : Int) ((b : Int) * ((2 ^ k : Nat) : Int)) = ((a + b * 2 ^ k : Nat) : Int) := by
  have h2 : (2 : Nat) ^ k ≤ 2 ^ 31 := Nat.pow_le_pow_right (by omega) (by omega)
  have := bo32 a (b * 2 ^ k) (by omega) hb
  rw [Nat.or_comm, or_add b a k ha, Int.natCast_mul] at this
  rw [this]
  omega
theorem ret3 {a a' : Value} {x x' : Int} {y y' : Int} (h1 : a = a') (h2 : x = x') (h3 : y = y') : Ending.returned (.tuple #[a, .int .i64 x, .int .i64 y]) = .returned (.tuple #[a', .int .i64 x', .int .i64 y']) := by rw [h1, h2, h3]

def ScanRel (w : World) (b : List UInt8) (k : Nat) (v : Value) (wr : World) : Prop :=
  ∃ LA n c ss L, v = .slice LA n c ∧ Lst wr LA n c ss L ∧ (∀ i, fp LA i → w.heap.size ≤ i) ∧ ScanAt b k L ∧ Mod none_ w wr ∧ n ≤ k
/-- What Scan hands back. -/
def ScanPost (w : World) (b : List UInt8) (e : Ending) (w' : World) : Prop :=
  ∃ LA n c ss, e = .returned (.tuple #[.slice LA n c, .int .i64 ((scan b).2.1 : Nat), .int .i64 ((scan b).2.2 : Nat)]) ∧ Lst w' LA n c ss (scan b).1 ∧ (∀ i, fp LA i → w.heap.size ≤ i) ∧ Mod none_ w w'

theorem RdB.drewN_ {w : World} {A : Option Addr} {n : Nat} {l : List UInt8} (h : RdB w A n l) (k : Nat) : RdB (w.drewN k) A n l := h
theorem scan_end {w w' : World} {b : List UInt8} {LA : Option Addr} {m lc k ee : Nat} {ss : List SV} {L : List (List UInt8)} {x : Int} (hst : scan b = (L, k, ee)) (hL : Lst w' LA m lc ss L) (hLA : ∀ i, fp LA i → w.heap.size ≤ i) (hm : Mod none_ w w') (he : x = (ee : Int)) :
    ScanPost w b (.returned (.tuple #[.slice LA m lc, .int .i64 (k : Int), .int .i64 x])) w' :=
  ⟨LA, m, lc, ss, by rw [hst, he], by rw [hst]; exact hL, hLA, hm⟩
theorem rdb_sub {w : World} {g O q nm : Nat} {r : List UInt8} (hget : ∀ i, i < q → w.cell? ⟨g, O + i, none⟩ = some (.int .u8 ((r.getD i 0).toNat : Int))) (hr : r.length = q) (h : 6 + nm ≤ q) : RdB w (some ⟨g, O + 6, none⟩) nm ((r.drop 6).take nm) := by
  have hl : ((r.drop 6).take nm).length = nm := by rw [List.length_take, List.length_drop]; omega
  refine ⟨by rw [bvs_length, hl]; omega, fun _ => ⟨_, rfl, fun j u hu => ?_⟩⟩
  have hj : j < nm := by
    rcases Nat.lt_or_ge j nm with h1 | h1
    · exact h1
    · rw [List.getElem?_eq_none (by rw [bvs_length, hl]; exact h1)] at hu; cases hu
  rw [bvs_get (by rw [hl]; exact hj)] at hu
  have e : (⟨g, O + 6, none⟩ : Addr).add j = ⟨g, O + (6 + j), none⟩ := by unfold Addr.add; split <;> simp_all [Nat.add_assoc]
  rw [e, hget (6 + j) (by omega), ← hu]
  have : r.getD (6 + j) 0 = ((r.drop 6).take nm)[j]'(by rw [hl]; exact hj) := by
    simp [List.getD, List.getElem?_eq_getElem (show 6 + j < r.length by omega)]
  rw [this]

set_option maxRecDepth 100000 in
set_option maxHeartbeats 2000000 in
theorem scan_ok (w : World) (A : Option Addr) (n c : Nat) (b : List UInt8) (h : RdB w A n b) (hn : n ≤ c) (hc : c ≤ 9223372036854775807) (hs : n ≤ 1000000) : Calls Tryz.prog 42 #[.slice A n c] w fun e w' => ScanPost w b e w' := by
  have hl := Lib.hid h.len
  have H := Lib.hid h
  obtain ⟨i0, hi, hz0, hz1, hz2⟩ := info_parts slinfo
  clear h
  go_enter Tryz.func42, Tryz.ntmps42
  go_wp2_with fail
  go_step3
  go_wp2_with fail
  go_step3
  go_wp2_with fail
  go_loopw [5, 6, 7] (fun v i e wr => ∃ k : Nat, i = .int .i64 k ∧ e = .int .i64 0 ∧ ScanRel w b k v wr ∧ k ≤ n) (fun _ i _ _ => n - (intOf i).toNat)
  case atStart => exact ⟨0, rfl, rfl, ⟨none, 0, 0, [], [], rfl, Lst.nil w, (fun k hk => by obtain ⟨a, ha, _⟩ := hk; cases ha), ScanAt.zero b, Mod.refl _ w, by omega⟩, by omega⟩
  case round =>
    obtain ⟨k, rfl, rfl, ⟨LA, m, lc, ss, L, rfl, hL, hLA, hsc, hm, hmk⟩, hk⟩ := hrel
    replace hL := Lib.hid hL
    replace hLA := Lib.hid hLA
    replace hsc := Lib.hid hsc
    by_cases hlt : k < n
    · obtain ⟨g, o, rfl, hcell⟩ := (H.out.mod0 hm).form (by omega) (by omega)
      replace hm := Lib.hid hm
      have hlb : b.length = n := hl.out
      obtain ⟨q, rfl⟩ : ∃ q, n = k + q := ⟨n - k, by omega⟩
      obtain ⟨d, rfl⟩ : ∃ d, c = k + d := ⟨c - k, by omega⟩
      have hql : (b.drop k).length = q := by rw [List.length_drop]; omega
      have hget : ∀ i, i < q → wr.cell? ⟨g, o + k + i, none⟩ = some (.int .u8 (((b.drop k).getD i 0).toNat : Int)) := by
        intro i hi
        have h1 : k + i < b.length := by omega
        have := hcell (k + i) _ (bvs_get h1)
        rw [← Nat.add_assoc] at this
        rw [this]
        have e : (b.drop k).getD i 0 = b[k + i] := by simp [List.getD, h1]
        rw [e]
      generalize hr : b.drop k = r at *
      replace hr := Lib.hid hr
      replace hlb := Lib.hid hlb
      have hql := Lib.hid hql
      by_cases hq2 : q < 2
      · have hst := hsc.out.stop (by have := hlb.out; omega) (by rw [hr.out, stop_short (by have := hql.out; omega)]; omega)
        rw [hr.out, stop_short (by have := hql.out; omega)] at hst
        replace hst := Lib.hid hst
        clear hcell hget
        go_wp2
        rw [Exit.noGoto_ret]
        go_ret3
        exact scan_end hst.out hL.out hLA.out (hm.out) rfl
      · have b0 := hget 0 (by omega)
        have b1 := hget 1 (by omega)
        rw [Nat.add_zero] at b0
        have l0 := (r.getD 0 0).toNat_lt
        have l1 := (r.getD 1 0).toNat_lt
        have hnum : num r = (r.getD 0 0).toNat + 256 * (r.getD 1 0).toNat := rfl
        have hor := or_i64 _ _ l0 l1
        rw [← hnum] at hor
        have hnl : num r < 65536 := by omega
        replace hnum := Lib.hid hnum
        generalize (r.getD 0 0).toNat = x0 at *
        generalize (r.getD 1 0).toNat = x1 at *
        obtain ⟨nm, hnm⟩ : ∃ nm, nm = num r := ⟨_, rfl⟩
        rw [← hnm] at hor hnl hnum
        replace hnm := Lib.hid hnm
        by_cases hbad : nm < 1 ∨ 4096 < nm
        · have hse : stopE r = 3 := stop_num (by have := hql.out; omega) (by rw [← hnm.out]; exact hbad)
          have hst := hsc.out.stop (by have := hlb.out; omega) (by rw [hr.out, hse]; omega)
          rw [hr.out, hse] at hst
          replace hst := Lib.hid hst
          have hbad' := Lib.hid (show (nm : Int) < 1 ∨ 4096 < (nm : Int) by omega)
          clear hcell hget hse hbad
          go_wp2_with (first | go_quiet (fail) | (go_at_call 77; refine (fits_no _ _ hbad'.out).mono ?_; rintro e w1 ⟨rfl, rfl⟩))
          rw [Exit.noGoto_ret]
          go_ret3
          exact scan_end hst.out (hL.out.mod0 ((Mod.refl _ wr).drewN _)) hLA.out (hm.out.drewN _) rfl
        · have g1 : 1 ≤ nm := by omega
          have g2 : nm ≤ 4096 := by omega
          by_cases htorn : q < 6 + nm
          · have hse : stopE r = 4 := stop_torn (by have := hql.out; omega) (by rw [← hnm.out]; exact hbad) (by rw [← hnm.out, hql.out]; exact htorn)
            have hst := hsc.out.stop (by have := hlb.out; omega) (by rw [hr.out, hse]; omega)
            rw [hr.out, hse] at hst
            replace hst := Lib.hid hst
            clear hcell hget hse hbad
            go_wp2_with (first | go_quiet (fail) | (go_at_call 77; refine (fits_yes _ _ (by omega) (by omega)).mono ?_; rintro e w1 ⟨rfl, rfl⟩))
            rw [Exit.noGoto_ret]
            go_ret3
            exact scan_end hst.out (hL.out.mod0 ((Mod.refl _ wr).drewN _)) hLA.out (hm.out.drewN _) rfl
          · have b2 := hget 2 (by omega)
            have b3 := hget 3 (by omega)
            have b4 := hget 4 (by omega)
            have b5 := hget 5 (by omega)
            have hbody : RdB wr (some ⟨g, o + k + 6, none⟩) nm (body r) := by
              unfold body
              rw [← hnm.out]
              exact rdb_sub hget hql.out (by omega)
            replace hbody := Lib.hid hbody
            clear hcell hget
            have hse : crc (body r) = sumOf r → stopE r = 0 := fun he => stop_no (by have := hql.out; omega) (by rw [← hnm.out]; exact hbad) (by rw [← hnm.out, hql.out]; exact htorn) he
            have hse3 : crc (body r) ≠ sumOf r → stopE r = 3 := fun he => stop_sum (by have := hql.out; omega) (by rw [← hnm.out]; exact hbad) (by rw [← hnm.out, hql.out]; exact htorn) he
            clear hbad
            replace hse := Lib.hid hse
            replace hse3 := Lib.hid hse3
            have l2 := (r.getD 2 0).toNat_lt
            have l3 := (r.getD 3 0).toNat_lt
            have l4 := (r.getD 4 0).toNat_lt
            have l5 := (r.getD 5 0).toNat_lt
            have hsum : sumOf r = (r.getD 2 0).toNat + 256 * (r.getD 3 0).toNat + 65536 * (r.getD 4 0).toNat + 16777216 * (r.getD 5 0).toNat := rfl
            replace hsum := Lib.hid hsum
            generalize (r.getD 2 0).toNat = x2 at *
            generalize (r.getD 3 0).toNat = x3 at *
            generalize (r.getD 4 0).toNat = x4 at *
            generalize (r.getD 5 0).toNat = x5 at *
            have o1 : bits .or .u32 (x2 : Int) ((x3 : Int) * 256) = ((x2 + x3 * 256 : Nat) : Int) := or_u32 x2 x3 8 (by omega) (by omega) (by omega)
            have o2 : bits .or .u32 ((x2 + x3 * 256 : Nat) : Int) ((x4 : Int) * 65536) = ((x2 + x3 * 256 + x4 * 65536 : Nat) : Int) := or_u32 (x2 + x3 * 256) x4 16 (by omega) (by omega) (by omega)
            have o3 : bits .or .u32 ((x2 + x3 * 256 + x4 * 65536 : Nat) : Int) ((x5 : Int) * 16777216) = ((x2 + x3 * 256 + x4 * 65536 + x5 * 16777216 : Nat) : Int) := or_u32 (x2 + x3 * 256 + x4 * 65536) x5 24 (by omega) (by omega) (by omega)
            have hsv : ((x2 + x3 * 256 + x4 * 65536 + x5 * 16777216 : Nat) : Int) = (sumOf r : Int) := by rw [hsum.out]; omega
            rw [hsv] at o3
            clear hsv
            generalize x2 + x3 * 256 + x4 * 65536 = y2 at *
            generalize x2 + x3 * 256 = y1 at *
            go_upto_region 17 with (first | go_quiet (fail) | (go_at_call 77; refine (fits_yes _ _ (by omega) (by omega)).mono ?_; rintro e w1 ⟨rfl, rfl⟩))
            clear o1 o2 o3 b0 b1 b2 b3 b4 b5 hor l0 l1 l2 l3 l4 l5
            go_wp2_with fail
            (with_reducible refine (sum_ok _ _ _ _ (body r) (RdB.drewN_ hbody.out _) (by omega)).mono ?_)
            rintro e w2 ⟨rfl, hm2⟩
            by_cases hcs : crc (body r) = sumOf r
            · have e1 : ((crc (body r) : Int) != (sumOf r : Int)) = false := by rw [hcs]; simp
              have hgo := hsc.out.go (by have := hlb.out; omega) (by rw [hr.out]; exact hse.out hcs)
              rw [hr.out, ← hnm.out] at hgo
              replace hgo := Lib.hid hgo
              replace hcs := Lib.hid hcs
              have hm3 := Lib.hid ((hm.out.drewN _).trans hm2)
              have hL3 := Lib.hid ((hL.out.mod0 ((Mod.refl _ wr).drewN _)).mod0 hm2)
              have hb3' : RdB w2 (some ⟨g, o + k + 6, none⟩) nm (body r) := Rd.mod0 (RdB.drewN_ hbody.out _) hm2
              have hb3 := Lib.hid hb3'
              clear hb3'
              clear hm2
              go_wp2_with fail
              (with_reducible refine (clone_b _ (body r) _ _ _ hb3.out (by omega)).mono ?_)
              rintro e w4 ⟨B4, b4, rfl, ho4, hf4, hm4⟩
              have hm5 := Lib.hid (hm3.out.trans hm4)
              have hL5 := Lib.hid (hL3.out.mod0 hm4)
              have ht : Txt1 (w4.alloc (.cells #[.slice B4 nm b4] 22)) LA ⟨B4, nm, b4⟩ (body r) := by
                refine ⟨Rd.alloc ho4.rd _, ho4.2.1, by have := ho4.2.2.1; simpa [maxLen] using this, fun _ k hk => ⟨?_, ?_⟩⟩
                · have := ho4.lt k hk; simp; omega
                · exact Fresh.apart hf4 (fun k hk => hL3.out.1.lt k hk) k hk
              replace ht := Lib.hid ht
              clear ho4 hf4 hm4
              go_wp2_with (at_builtin; refine wpList_append_ow rfl (.tmp 76) (.tmp 79) 85 rfl 22 i0 _ 1 24 Tryz.underlying85 hi hz0 hz1 hz2 rfl (by omega) LA m lc (ss.map SV.v) rfl (hL5.out.1.mod0 ((Mod.refl none_ w4).alloc _)) (some ⟨w4.heap.size, 0, none⟩) 1 1 [.slice B4 nm b4] rfl (rdn w4 _ 1 1 _ _ (0, 0) rfl rfl) (by simp [Value.oneCell']) (by omega) (by omega) ?_; intro A5 c5 w5 hown5 hmod5 hA5)
              have hA5' : A5 = LA ∨ ∃ g, A5 = some ⟨g, 0, none⟩ ∧ (w4.alloc (.cells #[.slice B4 nm b4] 22)).heap.size ≤ g := by
                rcases hA5 with h | h
                · exact .inl h
                · exact .inr ⟨_, h, by simp⟩
              have hL6 := (hL5.out.mod0 ((Mod.refl none_ w4).alloc _)).push ht.out hown5 hmod5 hA5'
              have hLA6 : ∀ i, fp A5 i → w.heap.size ≤ i := by
                rintro i ⟨a, ha, rfl⟩
                rcases hA5 with rfl | rfl
                · exact hLA.out _ ⟨a, ha, rfl⟩
                · cases ha; have := hm5.out.size; simp; omega
              have hm6 : Mod none_ w w5 := (hm5.out.alloc _).then hmod5 fun i hi hf => by have := hLA.out i hf; omega
              have hnext : ScanRel w b (k + (6 + nm)) (.slice A5 (m + 1) c5) w5 := ⟨A5, m + 1, c5, _, _, rfl, hL6, hLA6, hgo.out, hm6, by omega⟩
              replace hnext := Lib.hid hnext
              clear hL6 hLA6 hm6 hA5 hA5' hown5 hmod5
              go_wp2
              go_roundw
              case rel => exact ⟨k + (6 + nm), by go_num, rfl, hnext.out, by omega⟩
              case measure => simp [intOf]; omega
            · have e1 : ((crc (body r) : Int) != (sumOf r : Int)) = true := by simp; omega
              have hse := hse3.out hcs
              have hst := hsc.out.stop (by have := hlb.out; omega) (by rw [hr.out, hse]; omega)
              rw [hr.out, hse] at hst
              replace hst := Lib.hid hst
              replace hcs := Lib.hid hcs
              have hm3 := Lib.hid ((hm.out.drewN _).trans hm2)
              have hL3 := Lib.hid ((hL.out.mod0 ((Mod.refl _ wr).drewN _)).mod0 hm2)
              clear hse hm2
              go_wp2
              rw [Exit.noGoto_ret]
              go_ret3
              exact scan_end hst.out hL3.out hLA.out hm3.out rfl
    · have hst := hsc.out.done (by have := hl.out; omega)
      replace hst := Lib.hid hst
      replace hm := Lib.hid hm
      go_wp2
      rw [Exit.noGoto_ret]
      go_ret3
      exact scan_end hst.out hL.out hLA.out (hm.out) rfl
end Go.Proofs.YtdnbclhidpkpgaaGreat
/-
  log.Put: for whatever disk; what it tells and does, out of what Append and Sync do. No condition.
-/
namespace Go.Proofs.YtdnbclhidpkpgaaGreat
set_option linter.unusedVariables false
set_option linter.unusedSimpArgs false
open Go.RowKit
def RtR (x : Rs) : Bool := rightR x.r
def recsB (xs : List Rs) : List (List UInt8) := xs.map fun x => recB x.r
def logB (xs : List Rs) : List UInt8 := (recsB xs).flatMap frameOf
theorem recsB_len (xs : List Rs) : (recsB xs).length = xs.length := by simp [recsB]
theorem recsB_succ {xs : List Rs} {j : Nat} {x : Rs} (h : xs[j]? = some x) : recsB (xs.take (j + 1)) = recsB (xs.take j) ++ [recB x.r] := by
  rw [List.take_add_one, h]; simp [recsB]
theorem nb_pos (n : Int) : 1 ≤ (nb n).length := by
  unfold nb vb
  rw [show (10 : Nat) = 9 + 1 from rfl, vbF]
  split <;> simp
theorem recB_pos (r : Rc) : 1 ≤ (recB r).length := by
  have := nb_pos r.i.r
  unfold recB headB
  simp only [List.length_append]; omega
theorem rec_okL {x : Rs} (h : RtR x = true) (hn : numsE x.r.e) : okL (recB x.r) := ⟨recB_pos _, by have := recB_len (rightR_okRc h hn); omega⟩
theorem recs_okL {xs : List Rs} (h : ∀ x ∈ xs, RtR x = true) (hn : ∀ x ∈ xs, numsE x.r.e) : ∀ l ∈ recsB xs, okL l := by
  intro l hl
  simp only [recsB, List.mem_map] at hl
  obtain ⟨x, hx, rfl⟩ := hl
  exact rec_okL (h x hx) (hn x hx)
/-- a list of records in memory, each as Right asks -/
structure RsL (w : World) (A : Option Addr) (n : Nat) (xs : List Rs) : Prop where
  rd : RdR w A n xs
  mem : RsM w xs
  ok : ∀ x ∈ xs, RsOk x
  nums : ∀ x ∈ xs, numsE x.r.e
theorem RsL.mod0 {w w' : World} {A : Option Addr} {n : Nat} {xs : List Rs} (h : RsL w A n xs) (hm : Mod none_ w w') : RsL w' A n xs := ⟨Rd.mod0 h.rd hm, h.mem.mod0 hm, h.ok, h.nums⟩
theorem RsL.len {w : World} {A : Option Addr} {n : Nat} {xs : List Rs} (h : RsL w A n xs) : xs.length = n := RdR.len h.rd
set_option maxRecDepth 100000 in
set_option maxHeartbeats 8000000 in
theorem put_gen (w : World) (dv : Value) (A : Option Addr) (n c : Nat) (xs : List Rs) (h : RsL w A n xs) (hn : n ≤ 1000) (R : Ending → World → Prop)
    (kNo : ∀ W, Mod none_ w W → (∃ x ∈ xs, RtR x = false) → R (.returned (.int .i64 1)) W)
    (kNil : ∀ W, Mod none_ w W → n = 0 → R (.returned (.int .i64 0)) W)
    (kA : ∀ W B m d, Mod none_ w W → 0 < n → (∀ x ∈ xs, RtR x = true) → RdB W B m (logB xs) → Fresh w B → m ≤ d → Calls Tryz.prog 29 #[dv, .slice B m d] W fun e w' =>
      ∃ a : Int, e = .returned (.int .i64 a) ∧ ((a ≠ 0 ∧ R (.returned (.int .i64 a)) w') ∨ (a = 0 ∧ Calls Tryz.prog 52 #[dv] w' fun e w'' => ∃ v, e = .returned v ∧ R (.returned v) w''))) :
    Calls Tryz.prog 20 #[dv, .slice A n c] w R := by
  obtain ⟨i0, hi, hz0, hz1, hz2⟩ := info_parts slinfo
  have hl := Lib.hid h.len
  replace h := Lib.hid h
  replace kNo := Lib.hid kNo
  replace kNil := Lib.hid kNil
  replace kA := Lib.hid kA
  go_enter Tryz.func20, Tryz.ntmps20
  go_wp2_with fail
  go_loopw [5, 15] (fun v y wr => ∃ j : Nat, y = .int .i64 j ∧ j ≤ n ∧ ∃ B d ss, v = .slice B j d ∧ Lst wr B j d ss (recsB (xs.take j)) ∧ (∀ i, fp B i → w.heap.size ≤ i) ∧ Mod none_ w wr ∧ ∀ x ∈ xs.take j, RtR x = true) (fun _ y _ => n - (intOf y).toNat)
  case atStart => exact ⟨0, rfl, by omega, none, 0, [], rfl, Lst.nil _, (fun i ⟨a, ha, _⟩ => by cases ha), Mod.refl _ _, fun x hx => by simp at hx⟩
  case round =>
    obtain ⟨j, rfl, hj, B, d, ss, rfl, hL, hLA, hm, hall⟩ := hrel
    by_cases hlt : j < n
    · obtain ⟨g, o, x, hA, hxm, hx, hrg⟩ := rdr_get (w := wr) (Rd.mod0 h.out.rd hm) hlt
      subst hA
      unfold rsC at hrg
      have hEx := Lib.hid ((h.out.mem x hxm).mod0 hm)
      obtain ⟨q1, q2, q3, q4⟩ := h.out.ok x hxm
      have kB := Lib.hid (fun W (hM : Mod none_ wr W) => logBytes_ok W x.r x.L x.D (hEx.out.mod0 hM) q1 q2 q3 q4 (h.out.nums x hxm))
      have hz := Lib.hid (Blk.new wr 37 #[.int .i64 0, .int .i64 0, .int .i64 0, .int .i64 0, .int .i64 0, .int .i64 0, .int .i64 0, .int .i64 0, .string ⟨#[]⟩, .string ⟨#[]⟩, .int .i64 0, .slice none 0 0, .int .i64 0, .int .i64 0, .string ⟨#[]⟩, .bool false, .slice none 0 0])
      have hlb : (recB x.r).length ≤ 100000000 ∨ RtR x = false := by
        cases hr : RtR x with
        | true => exact .inl (by have := recB_len (rightR_okRc hr (h.out.nums x hxm)); omega)
        | false => exact .inr rfl
      replace hL := Lib.hid hL
      replace hLA := Lib.hid hLA
      replace hm := Lib.hid hm
      replace hall := Lib.hid hall
      replace hxm := Lib.hid hxm
      replace hx := Lib.hid hx
      replace hrg := Lib.hid hrg
      replace q3 := Lib.hid q3
      replace q4 := Lib.hid q4
      replace hlb := Lib.hid hlb
      go_wp2_with (first
        | (refine wpList_load_mid rfl 37 (.tmp 17) rfl g (o + j * 17) rfl _ _ hrg.out Tryz.underlying37 rfl rc_size ?_)
        | (refine wpList_store_blk rfl 37 (.tmp 7) (.tmp 18) rfl wr.heap.size 0 _ rfl rfl hz.out (by simp) rc_size (by rfl) #[.int .i64 x.r.i.r, .int .i64 x.r.i.n, .int .i64 x.r.bal, .int .i64 x.r.st, .int .i64 x.r.by_, .int .i64 x.r.e.o.c, .int .i64 x.r.e.o.s, .int .i64 x.r.e.o.k, .string (txt x.r.e.o.acct), .string (txt x.r.e.o.peer), .int .i64 x.r.e.o.sum, .slice x.L.a x.L.n x.L.c, .int .i64 x.r.e.o.per, .int .i64 x.r.e.o.hold, .string (txt x.r.e.o.note), .bool x.r.e.none, .slice x.D.a x.D.n x.D.c] rfl ?_; intro w2 hb2 hm2; have hm2' := Lib.hid (((Mod.refl none_ wr).alloc (.cells #[.int .i64 0, .int .i64 0, .int .i64 0, .int .i64 0, .int .i64 0, .int .i64 0, .int .i64 0, .int .i64 0, .string ⟨#[]⟩, .string ⟨#[]⟩, .int .i64 0, .slice none 0 0, .int .i64 0, .int .i64 0, .string ⟨#[]⟩, .bool false, .slice none 0 0] 37)).in_new (Nat.le_refl _) hm2); replace hb2 := Lib.hid hb2; clear hm2)
        | (refine wpList_load_row rfl 37 (.tmp 7) rfl wr.heap.size rfl _ _ _ _ hb2.out Tryz.underlying37 rfl rc_size ?_))
      have hM2 := Lib.hid (hm.out.trans hm2'.out)
      have hL2 := Lib.hid (hL.out.mod0 hm2'.out)
      with_reducible refine (kB.out _ hm2'.out).mono ?_
      rintro e w3 hpost
      rcases hpost with ⟨hr, A3, c3, rfl, ho3, hf3, hm3⟩ | ⟨hr, rfl, hm3⟩
      · dsimp only
        have hM3 := Lib.hid (hM2.out.trans hm3)
        have hL3 := Lib.hid (hL2.out.mod0 hm3)
        have hlb3 := hlb.out.resolve_right (by unfold RtR; rw [hr]; simp)
        have ht : Txt1 (w3.alloc (.cells #[.slice A3 (recB x.r).length c3] 22)) B ⟨A3, (recB x.r).length, c3⟩ (recB x.r) := by
          refine ⟨Rd.alloc ho3.rd _, ho3.2.1, by have := ho3.2.2.1; simpa [maxLen] using this, fun _ k hk => ⟨?_, ?_⟩⟩
          · have := ho3.lt k hk; simp; omega
          · exact Fresh.apart hf3 (fun k hk => hL2.out.1.lt k hk) k hk
        have hsn := Lib.hid (recsB_succ hx.out)
        replace ht := Lib.hid ht
        replace hr := Lib.hid hr
        generalize hn3 : (recB x.r).length = n3 at *
        clear ho3 hf3 hm3 kB hL hL2 hz hb2 hm hm2' hM2
        replace hn3 := Lib.hid hn3
        go_wp2_with (at_builtin; refine wpList_append_ow rfl (.tmp 27) (.tmp 29) 85 rfl 22 i0 _ 1 24 Tryz.underlying85 hi hz0 hz1 hz2 rfl (by omega) B j d (ss.map SV.v) rfl (hL3.out.1.mod0 ((Mod.refl none_ w3).alloc _)) (some ⟨w3.heap.size, 0, none⟩) 1 1 [.slice A3 n3 c3] rfl (rdn w3 _ 1 1 _ _ (0, 0) rfl rfl) (by simp [Value.oneCell']) (by omega) (by omega) ?_; intro A5 c5 w5 hown5 hmod5 hA5)
        have hA5' : A5 = B ∨ ∃ g, A5 = some ⟨g, 0, none⟩ ∧ (w3.alloc (.cells #[.slice A3 n3 c3] 22)).heap.size ≤ g := by
          rcases hA5 with h | h
          · exact .inl h
          · exact .inr ⟨_, h, by simp⟩
        have hL6 := Lib.hid ((hL3.out.mod0 ((Mod.refl none_ w3).alloc _)).push ht.out hown5 hmod5 hA5')
        have hLA6 : Hid (∀ i, fp A5 i → w.heap.size ≤ i) := Lib.hid (by
          rintro i ⟨a, ha, rfl⟩
          rcases hA5 with rfl | rfl
          · exact hLA.out _ ⟨a, ha, rfl⟩
          · cases ha; have := hM3.out.size; simp; omega)
        have hm6 := Lib.hid ((hM3.out.alloc (.cells #[.slice A3 n3 c3] 22)).then hmod5 (fun i hi hf => by have := hLA.out i hf; omega))
        clear hA5 hA5' hown5 hmod5 ht
        go_wp2_with fail
        go_roundw
        case rel =>
          refine ⟨j + 1, by go_num, by omega, A5, c5, _, rfl, by rw [hsn.out]; exact hL6.out, hLA6.out, hm6.out, ?_⟩
          intro y hy
          rw [List.take_add_one, hx.out] at hy
          rcases List.mem_append.1 hy with hy | hy
          · exact hall.out y hy
          · simp at hy; subst hy; exact hr.out
        case measure => simp [intOf]; omega
      · dsimp only
        have hend := Lib.hid (kNo.out _ (hM2.out.trans hm3) ⟨x, hxm.out, hr⟩)
        clear kB hm3
        replace hr := Lib.hid hr
        go_wp2_with fail
        exact hend.out
    · obtain rfl : j = n := by omega
      rw [List.take_of_length_le (by rw [hl.out]; exact Nat.le_refl _)] at hL hall
      obtain ⟨wf, rfl⟩ : ∃ wf, wf = wr := ⟨_, rfl⟩
      by_cases h0 : j = 0
      · have hend := Lib.hid (kNil.out wf hm h0)
        replace hL := Lib.hid hL
        replace hLA := Lib.hid hLA
        replace hm := Lib.hid hm
        replace hall := Lib.hid hall
        go_wp2_with fail
        exact hend.out
      · have hj0 : ((j : Int) == 0) = false := by simp; omega
        have kW := wrap_ok wf B j d ss (recsB xs) hL.rdl (by omega)
        replace hL := Lib.hid hL
        replace hLA := Lib.hid hLA
        replace hm := Lib.hid hm
        replace hall := Lib.hid hall
        go_wp2_with fail
        with_reducible refine kW.mono ?_
        rintro e w3 ⟨hm3, hcase⟩
        have hok := recs_okL hall.out (h.out.nums)
        obtain ⟨A3, m3, c3, rfl, ho3, hf3, -⟩ : ∃ A n c, e = .returned (.tuple #[.slice A n c, .int .i64 0]) ∧ OwB w3 5 A n c (logB xs) ∧ Fresh wf A ∧ n ≤ (recsB xs).length * 4102 := by
          rcases hcase with ⟨_, h1⟩ | ⟨⟨l, hl1, hl2⟩, _⟩
          · exact h1
          · exact absurd (hok l hl1) hl2
        dsimp only
        have kA2 := Lib.hid (kA.out w3 A3 m3 c3 (hm.out.trans hm3) (by omega) hall.out ho3.rd (fun a ha => Nat.le_trans hm.out.size (hf3 a ha)) ho3.2.1)
        clear hcase hok hm3 ho3 hf3 kW
        go_wp2_with fail
        with_reducible refine kA2.out.mono ?_
        rintro e w4 ⟨a, rfl, hor⟩
        dsimp only
        rcases hor with ⟨ha, hR⟩ | ⟨rfl, kS⟩
        · have ha2 : (a != 0) = true := by simp [ha]
          replace ha := Lib.hid ha
          replace hR := Lib.hid hR
          clear kA2
          go_wp2_with fail
          first | exact hR.out | (go_ret; exact hR.out)
        · replace kS := Lib.hid kS
          clear kA2
          go_wp2_with fail
          with_reducible refine kS.out.mono ?_
          rintro e w5 ⟨v, rfl, hR⟩
          dsimp only
          replace hR := Lib.hid hR
          go_wp2_with fail
          first | exact hR.out | (go_ret; exact hR.out)
end Go.Proofs.YtdnbclhidpkpgaaGreat
/-
  The contract of disk.Up. No condition.
-/
namespace Go.Proofs.YtdnbclhidpkpgaaGreat
set_option linter.unusedVariables false
set_option linter.unusedSimpArgs false
open Go.RowKit

theorem spv_length (xs : List (Int × UInt8)) : (spv xs).length = xs.length * 2 := by
  induction xs with
  | nil => rfl
  | cons x xs ih => simp only [spv, List.flatMap_cons, List.length_append, List.length_cons, List.length_nil] at ih ⊢; omega
theorem spv_at (xs : List (Int × UInt8)) : ∀ (j : Nat) (hj : j < xs.length), (spv xs)[j * 2]? = some (.int .i64 xs[j].1) ∧ (spv xs)[j * 2 + 1]? = some (bv xs[j].2) := by
  induction xs with
  | nil => intro j hj; cases hj
  | cons x xs ih =>
    intro j hj
    cases j with
    | zero => simp [spv]
    | succ j =>
      have := ih j (by simpa using hj)
      have e : (j + 1) * 2 = j * 2 + 2 := by omega
      rw [e]
      simpa [spv] using this

/-- What holds behind j spoils. -/
def UpRel (w : World) (p : Nat) (A : Option Addr) (c : Nat) (l : List UInt8) (s r : Nat) (b : Bool) (kp : Nat) (xs : List (Int × UInt8)) (j : Nat) (wr : World) : Prop :=
  Dk wr p A c ⟨spoils_ s kp l (xs.take j), s, r, b⟩ ∧ Mod (dkf p A) w wr

section
variable (p : Nat) (A : Option Addr) (c : Nat) (l : List UInt8) (s r : Nat) (w : World)
set_option maxRecDepth 100000 in
set_option maxHeartbeats 400000 in
theorem disk_up (b : Bool) (h : Dk w p A c ⟨l, s, r, b⟩) (k : Int) (B : Option Addr) (n d : Nat) (xs : List (Int × UInt8)) (hx : Rd w 2 B n (spv xs)) (hB : ∀ i, fp B i → ¬ dkf p A i) (hnm : n ≤ 140737488351232) : Calls Tryz.prog 31 #[.pointer (some ⟨p, 0, none⟩), .int .i64 k, .slice B n d] w fun e w' =>
    e = .returned (.tuple #[]) ∧ Dk w' p A c ⟨(spoils_ s (upKeep l s k) l xs).take (s + upKeep l s k), s + upKeep l s k, r, false⟩ ∧ Mod (dkf p A) w w' := by
  have h0 := h.c0
  have h1 := h.c1
  have hlen : l.length ≤ 65536 := Nat.le_trans h.2.2.2.1 h.2.2.2.2
  have hs : s ≤ l.length := h.2.2.1
  have hc : l.length ≤ c := h.2.1.2.1
  have hxn : xs.length = n := by have := hx.1; rw [spv_length] at this; omega
  have Hxn := Lib.hid hxn
  have H := Lib.hid h
  have HB := Lib.hid hB
  obtain ⟨kp, hkp⟩ : ∃ kp, kp = upKeep l s k := ⟨_, rfl⟩
  have hkp' : kp = (min (max k 0) ((l.length : Int) - s)).toNat := hkp
  have hkl : s + kp ≤ l.length := by omega
  rw [← hkp]
  have Hkp := Lib.hid hkp'
  clear h hkp hkp' hB hxn
  go_enter Tryz.func31, Tryz.ntmps31
  go_upto_region 2 with (go_quiet (fail))
  go_cut [1] (fun s1 wx => s1 = .int .i64 (kp : Int) ∧ wx = w.drewN nq)
  case first =>
    go_wp2
    all_goals go_meet
    all_goals
      have e := Hkp.out
      refine ⟨?_, rfl⟩
      congr 1
      omega
  case rest =>
    obtain ⟨rfl, rfl⟩ := hcut
    go_wp2
    go_loopw [27] (fun i wr => ∃ j : Nat, j ≤ n ∧ i = .int .i64 j ∧ UpRel w p A c l s r b kp xs j wr) (fun i _ => n - (intOf i).toNat)
    case atStart => exact ⟨0, Nat.zero_le _, rfl, H.out, (Mod.refl _ w).drewN _⟩
    case round =>
      obtain ⟨j, hj, rfl, hr⟩ := hrel
      clear h0 h1
      have h := hr.1
      have hlj : (spoils_ s kp l (xs.take j)).length = l.length := spoils_length _ _ _ _
      have h0 := h.c0
      have h1 := h.c1
      simp only [hlj] at h0 h1
      have Hr := Lib.hid hr
      have Hlj := Lib.hid hlj
      clear h hr hlj
      by_cases hlt : j < n
      · obtain ⟨bb, bo, rfl, hcell⟩ := (hx.mod Hr.out.2 HB.out).form (by omega) (by omega)
        obtain ⟨x, hxj⟩ : ∃ x, xs[j]? = some x := ⟨_, List.getElem?_eq_getElem (by have := Hxn.out; omega)⟩
        obtain ⟨ax, bx⟩ := x
        have hsp := spv_at xs j (by have := Hxn.out; omega)
        have hc0 := hcell _ _ hsp.1
        have hc1 := hcell _ _ hsp.2
        rw [← Nat.add_assoc] at hc1
        have hxe : xs[j]'(by have := Hxn.out; omega) = (ax, bx) := by
          rw [List.getElem?_eq_getElem (by have := Hxn.out; omega)] at hxj
          injection hxj
        rw [hxe] at hc0 hc1
        clear hsp hcell hxe
        have Hxj := Lib.hid hxj
        clear hxj
        simp only [bv] at hc0 hc1
        by_cases hin : 0 ≤ ax ∧ ax < kp
        · obtain ⟨hin1, hin2⟩ := hin
          obtain ⟨g, cur, hA, _⟩ := Hr.out.1.2.1.form (by have := Hlj.out; show 0 < (spoils_ s kp l (xs.take j)).length; omega)
          subst hA
          obtain ⟨an, rfl⟩ := Int.eq_ofNat_of_zero_le hin1
          have hcs : wr.cell? ⟨g, s + an, none⟩ = (bvs (spoils_ s kp l (xs.take j)))[s + an]? := Hr.out.1.2.1.cell_ rfl _ (by have := Hlj.out; show s + an < (spoils_ s kp l (xs.take j)).length * 1; omega)
          rw [bvs_get (by have := Hlj.out; omega)] at hcs
          have hfs : wr.frozen? ⟨g, s + an, none⟩ = false := Hr.out.1.2.1.free rfl _
          have hnext : UpRel w p (some ⟨g, 0, none⟩) c l s r b kp xs (j + 1) ((wr.setCell ⟨g, s + an, none⟩ (.int .u8 (bx.toNat : Int))).alloc (.cells #[.int .i64 (an : Int), .int .u8 (bx.toNat : Int)] 64)).drew := by
            obtain ⟨hr1, hr2⟩ := Hr.out
            have e : xs.take (j + 1) = xs.take j ++ [((an : Int), bx)] := by rw [List.take_add_one, Hxj.out]; rfl
            have e2 : spoils_ s kp l (xs.take (j + 1)) = (spoils_ s kp l (xs.take j)).set (s + an) bx := by
              rw [e, spoils_, List.foldl_append]
              simp only [List.foldl_cons, List.foldl_nil, spoil1]
              rw [if_pos ⟨by omega, by omega⟩]
              rfl
            have hpg : p ≠ g := fun e => hr1.apart ⟨_, rfl, e.symm⟩
            have hm : Mod (dkf p (some ⟨g, 0, none⟩)) w (wr.setCell ⟨g, s + an, none⟩ (.int .u8 (bx.toNat : Int))) := hr2.setCell (p := ⟨g, s + an, none⟩) (.inl (.inr ⟨_, rfl, rfl⟩)) _
            refine ⟨Dk.mod0 ?_ ((Mod.refl _ (wr.setCell ⟨g, s + an, none⟩ (.int .u8 (bx.toNat : Int)))).alloc _).drew, (hm.alloc _).drew⟩
            refine ⟨?_, ?_, ?_⟩
            · show Blk _ _ _ #[.slice _ (spoils_ s kp l (xs.take (j + 1))).length c, _, _, _]
              rw [e2, List.length_set]
              exact hr1.1.far (p := ⟨g, s + an, none⟩) hpg _
            · show Ow _ _ _ _ (spoils_ s kp l (xs.take (j + 1))).length _ (bvs (spoils_ s kp l (xs.take (j + 1))))
              rw [e2, List.length_set, bvs_set]
              exact hr1.2.1.set_ rfl _ _
            · have := hr1.2.2
              simp only [DS.fit, e2, List.length_set] at this ⊢
              exact this
          have Hnext := Lib.hid hnext
          clear hnext
          have hpl : p < wr.heap.size := World.block_lt_of_cell? wr ⟨p, 0, none⟩ h0
          have hgl : g < wr.heap.size := World.block_lt_of_cell? wr ⟨g, s + an, none⟩ hcs
          go_upto_region 7 with fail
          refine wp_region_still_tail 13 (by kernel_rfl) (by kernel_rfl) ?_
          simp only [List.take_succ_cons, List.take_zero, List.drop_succ_cons, List.drop_zero]
          change wpStill _ _ (World.drew _) _ _ _
          repeat still_step
          refine wpStill_nil ?_
          change wpList _ _ _ _ _ (World.drew _)
          go_wp2
          go_roundw
          case rel => exact ⟨j + 1, by omega, by go_num, Hnext.out⟩
          case measure => simp [intOf]; omega
        · have hnext : UpRel w p A c l s r b kp xs (j + 1) (wr.alloc (.cells #[.int .i64 ax, .int .u8 (bx.toNat : Int)] 64)) := by
            obtain ⟨hr1, hr2⟩ := Hr.out
            refine ⟨?_, hr2.alloc _⟩
            have e : xs.take (j + 1) = xs.take j ++ [(ax, bx)] := by rw [List.take_add_one, Hxj.out]; rfl
            rw [e, spoils_, List.foldl_append]
            simp only [List.foldl_cons, List.foldl_nil, spoil1]
            rw [if_neg hin]
            exact hr1.mod0 ((Mod.refl _ wr).alloc _)
          have Hnext := Lib.hid hnext
          clear hnext
          rcases Int.lt_or_le ax 0 with ha | ha
          · clear hin
            go_wp2
            go_roundw
            case rel => exact ⟨j + 1, by omega, by go_num, Hnext.out⟩
            case measure => simp [intOf]; omega
          · have ha' : (kp : Int) ≤ ax := by omega
            clear hin
            go_wp2
            go_roundw
            case rel => exact ⟨j + 1, by omega, by go_num, Hnext.out⟩
            case measure => simp [intOf]; omega
      · have hjn : j = n := by omega
        subst hjn
        have h3 := Hr.out.1.c3
        have f0 := Hr.out.1.1.frozen 0
        have f1 := Hr.out.1.1.frozen 1
        have f3 := Hr.out.1.1.frozen 3
        clear hlt
        have hb0 : (0 : Int) ≤ (s : Int) + kp := by omega
        have hb1 : (s : Int) + kp ≤ (c : Int) := by omega
        go_upto_region 10 with fail
        refine wp_region_still_tail 10 (by kernel_rfl) (by kernel_rfl) ?_
        simp only [List.take_succ_cons, List.take_zero, List.drop_succ_cons, List.drop_zero]
        change wpStill _ _ (World.drew _) _ _ _
        repeat still_step
        refine wpStill_nil ?_
        change wpList _ _ _ _ _ (World.drew _)
        go_wp2
        go_end0
        have hr := Hr.out
        have e : xs.take j = xs := List.take_of_length_le (by have := Hxn.out; omega)
        obtain ⟨hr1, hr2⟩ := hr
        rw [e] at hr1
        have hll : (spoils_ s kp l xs).length = l.length := spoils_length _ _ _ _
        refine ⟨rfl, ⟨?_, ?_, ?_⟩, ?_⟩
        · have e1 : ((spoils_ s kp l xs).take (s + kp)).length = s + kp := by rw [List.length_take, hll]; omega
          show Blk _ _ _ #[.slice _ ((spoils_ s kp l xs).take (s + kp)).length c, .int .i64 ((s + kp : Nat) : Int), _, _]
          rw [e1]
          exact (((hr1.1.set_ 1 (.int .i64 ((s : Int) + kp))).set_ 0 (.slice A (s + kp) c)).set_ 3 (.bool false)).drew
        · have e1 : ((spoils_ s kp l xs).take (s + kp)).length = s + kp := by rw [List.length_take, hll]; omega
          show Ow _ _ _ _ ((spoils_ s kp l xs).take (s + kp)).length _ _
          rw [e1, bvs_take]
          have h5 := hr1.2.1.take_ (k := s + kp) (by show s + kp ≤ (spoils_ s kp l xs).length; omega)
          rw [Nat.mul_one] at h5
          exact h5.mod ((((Mod.refl (fun k => k = p) wr).setCell (p := ⟨p, 1, none⟩) (.inl rfl) _).setCell (p := ⟨p, 0, none⟩) (.inl rfl) _).setCell (p := ⟨p, 3, none⟩) (.inl rfl) _).drew (fun i hi he => hr1.apart (he ▸ hi))
        · have := hr1.2.2
          simp only [DS.fit, List.length_take, hll] at this ⊢
          omega
        · exact (((hr2.setCell (p := ⟨p, 1, none⟩) (.inl (.inl rfl)) _).setCell (p := ⟨p, 0, none⟩) (.inl (.inl rfl)) _).setCell (p := ⟨p, 3, none⟩) (.inl (.inl rfl)) _).drew
end
end Go.Proofs.YtdnbclhidpkpgaaGreat
/-
  log.Put on a disk: what it tells, and what the disk has then. No condition.
-/
namespace Go.Proofs.YtdnbclhidpkpgaaGreat
set_option linter.unusedVariables false
set_option linter.unusedSimpArgs false
open Go.RowKit
theorem allR_or (xs : List Rs) : (∀ x ∈ xs, RtR x = true) ∨ ∃ x ∈ xs, RtR x = false := by
  by_cases h : ∀ x ∈ xs, RtR x = true
  · exact .inl h
  · refine .inr ?_
    simp only [Classical.not_forall] at h
    obtain ⟨x, hx, h⟩ := h
    exact ⟨x, hx, by simpa using h⟩
/-- what Put on a disk that isn't broken tells, and what is then there, and sure -/
def putR (l : List UInt8) (s r : Nat) (xs : List Rs) : Int × List UInt8 × Nat :=
  if xs.all RtR then if xs = [] then (0, l, s) else if l.length + (logB xs).length ≤ r then (0, l ++ logB xs, l.length + (logB xs).length) else (5, l, s) else (1, l, s)
theorem Nw.step {w w1 : World} {A A1 : Option Addr} {p : Nat} (h : Nw w A A1) : ∀ i, i < w.heap.size → dkf p A1 i → dkf p A i := by
  intro i hi hk
  rcases hk with hk | hk
  · exact .inl hk
  · rcases h with rfl | h
    · exact .inr hk
    · obtain ⟨a, ha, rfl⟩ := hk; have := h a ha; omega
theorem put_ok (w : World) (p : Nat) (A : Option Addr) (c : Nat) (l : List UInt8) (s r : Nat) (hd : Dk w p A c ⟨l, s, r, false⟩) (B : Option Addr) (n d : Nat) (xs : List Rs) (h : RsL w B n xs) (hn : n ≤ 1000) :
    Calls Tryz.prog 20 #[.pointer (some ⟨p, 0, none⟩), .slice B n d] w fun e w' =>
      ∃ A' c' a l' s', e = .returned (.int .i64 a) ∧ putR l s r xs = (a, l', s') ∧ Dk w' p A' c' ⟨l', s', r, false⟩ ∧ Nw w A A' ∧ Mod (dkf p A) w w' := by
  have hl := h.len
  refine put_gen w _ B n d xs h hn _ ?_ ?_ ?_
  · intro W hm ⟨x, hx, hr⟩
    refine ⟨A, c, 1, l, s, rfl, ?_, hd.mod0 hm, .inl rfl, hm.any _⟩
    unfold putR
    rw [if_neg (by rw [List.all_eq_true]; intro hh; rw [hh x hx] at hr; cases hr)]
  · intro W hm h0
    have hx : xs = [] := List.eq_nil_of_length_eq_zero (by omega)
    refine ⟨A, c, 0, l, s, rfl, ?_, hd.mod0 hm, .inl rfl, hm.any _⟩
    unfold putR
    rw [if_pos (by rw [hx]; rfl), if_pos hx]
  · intro W B' m d' hm hpos hall hb hf hmd
    have hx : xs ≠ [] := by intro hh; rw [hh] at hl; simp at hl; omega
    have hlen := hb.len
    by_cases hr : l.length + m ≤ r
    · refine (disk_append p A c l s r W (hd.mod0 hm) B' m d' _ hb hr).mono ?_
      rintro e w1 ⟨rfl, A1, ⟨c1, hd1⟩, hn1, hm1⟩
      refine ⟨0, rfl, .inr ⟨rfl, ?_⟩⟩
      refine (disk_sync p A1 c1 _ s r w1 hd1).mono ?_
      rintro e w2 ⟨rfl, hd2, hm2⟩
      have hnw : Nw w A A1 := by
        rcases hn1 with h1 | h1
        · exact .inl h1
        · exact .inr (fun a ha => Nat.le_trans hm.size (h1 a ha))
      refine ⟨_, rfl, A1, c1, 0, _, _, rfl, ?_, hd2, hnw, ?_⟩
      · unfold putR
        rw [if_pos (by rw [List.all_eq_true]; exact hall), if_neg hx, if_pos (by omega), List.length_append]
      · exact ((hm.any _).trans hm1).then hm2 (Nw.step (w1 := w1) hnw)
    · refine (disk_append_full p A c l s r W (hd.mod0 hm) B' m d' (by omega)).mono ?_
      rintro e w1 ⟨rfl, k, rfl⟩
      refine ⟨5, rfl, .inl ⟨by decide, A, c, 5, l, s, rfl, ?_, (hd.mod0 hm).mod0 ((Mod.refl none_ W).drewN k), .inl rfl, (hm.drewN k).any _⟩⟩
      unfold putR
      rw [if_pos (by rw [List.all_eq_true]; exact hall), if_neg hx, if_neg (by omega)]
theorem put_down (w : World) (dv : Value) (hdv : dv = .pointer none ∨ ∃ p A c l s r, dv = .pointer (some ⟨p, 0, none⟩) ∧ Dk w p A c ⟨l, s, r, true⟩) (B : Option Addr) (n d : Nat) (xs : List Rs) (h : RsL w B n xs) (hn : n ≤ 1000) :
    Calls Tryz.prog 20 #[dv, .slice B n d] w fun e w' => e = .returned (.int .i64 (if xs.all RtR then if xs = [] then 0 else 14 else 1)) ∧ Mod none_ w w' := by
  have hl := h.len
  refine put_gen w _ B n d xs h hn _ ?_ ?_ ?_
  · intro W hm ⟨x, hx, hr⟩
    refine ⟨?_, hm⟩
    rw [if_neg (by rw [List.all_eq_true]; intro hh; rw [hh x hx] at hr; cases hr)]
  · intro W hm h0
    have hx : xs = [] := List.eq_nil_of_length_eq_zero (by omega)
    refine ⟨?_, hm⟩
    rw [if_pos (by rw [hx]; rfl), if_pos hx]
  · intro W B' m d' hm hpos hall hb hf hmd
    have hx : xs ≠ [] := by intro hh; rw [hh] at hl; simp at hl; omega
    have key : Calls Tryz.prog 29 #[dv, .slice B' m d'] W fun e w' => e = .returned (.int .i64 14) ∧ W = w' := by
      rcases hdv with rfl | ⟨p, A, c, l, s, r, rfl, hd⟩
      · exact disk_append_nil _ _
      · exact disk_append_down p A c l s r W _ (hd.mod0 hm)
    refine key.mono ?_
    rintro e w1 ⟨rfl, rfl⟩
    refine ⟨14, rfl, .inl ⟨by decide, ?_, hm⟩⟩
    rw [if_pos (by rw [List.all_eq_true]; exact hall), if_neg hx]
end Go.Proofs.YtdnbclhidpkpgaaGreat
/-
  Frames, as a function on lists: what is scanned of frames that are whole. No condition.
-/
namespace Go.Proofs.YtdnbclhidpkpgaaGreat
set_option linter.unusedVariables false
set_option linter.unusedSimpArgs false
section
variable {l r : List UInt8}
theorem num_frame (h : okL l) : num (frameOf l ++ r) = l.length := by
  obtain ⟨h1, h2⟩ := h
  simp [num, frameOf, fhead, by_toNat]
  omega
theorem sumOf_frame : sumOf (frameOf l ++ r) = crc l := by
  have := crc_lt l
  simp [sumOf, frameOf, fhead, by_toNat]
  omega
theorem body_frame (h : okL l) : body (frameOf l ++ r) = l := by
  unfold body
  rw [num_frame h]
  have e : frameOf l ++ r = fhead l ++ (l ++ r) := by simp [frameOf]
  rw [e, List.drop_left' (by rfl)]
  simp
theorem drop_frame : (frameOf l ++ r).drop (6 + l.length) = r := List.drop_left' (frameOf_length l)
theorem stop_frame (h : okL l) : stopE (frameOf l ++ r) = 0 := by
  have h' := h
  obtain ⟨h1, h2⟩ := h'
  refine stop_no ?_ ?_ ?_ ?_
  · rw [List.length_append, frameOf_length]; omega
  · rw [num_frame h]; omega
  · rw [num_frame h, List.length_append, frameOf_length]; omega
  · rw [body_frame h, sumOf_frame]
theorem scan_frame (h : okL l) (r : List UInt8) : scan (frameOf l ++ r) = (l :: (scan r).1, 6 + l.length + (scan r).2.1, (scan r).2.2) := by
  rw [scan_go _ (by rw [List.length_append, frameOf_length]; omega) (stop_frame h), num_frame h, body_frame h, drop_frame]
end
theorem scan_flat : ∀ (ls : List (List UInt8)) (r : List UInt8), (∀ l ∈ ls, okL l) → scan (ls.flatMap frameOf ++ r) = (ls ++ (scan r).1, (ls.flatMap frameOf).length + (scan r).2.1, (scan r).2.2) := by
  intro ls
  induction ls with
  | nil => intro r _; simp
  | cons l ls ih =>
    intro r h
    rw [List.flatMap_cons, List.append_assoc, scan_frame (h l (by simp)), ih r (fun x hx => h x (by simp [hx]))]
    simp [frameOf_length, Nat.add_assoc]
theorem scan_flat0 (ls : List (List UInt8)) (h : ∀ l ∈ ls, okL l) : scan (ls.flatMap frameOf) = (ls, (ls.flatMap frameOf).length, 0) := by
  have := scan_flat ls [] h
  rw [scan_nil [] rfl] at this
  simpa using this
theorem scanF_le : ∀ (f : Nat) (l : List UInt8), (scanF f l).1.length ≤ l.length ∧ (scanF f l).2.1 ≤ l.length := by
  intro f
  induction f with
  | zero => intro l; exact ⟨Nat.zero_le _, Nat.zero_le _⟩
  | succ f ih =>
    intro l
    simp only [scanF]
    by_cases h0 : l.length = 0
    · rw [if_pos h0]; exact ⟨Nat.zero_le _, Nat.zero_le _⟩
    · rw [if_neg h0]
      by_cases h1 : stopE l ≠ 0
      · rw [if_pos h1]; exact ⟨Nat.zero_le _, Nat.zero_le _⟩
      · rw [if_neg h1]
        have h2 : 6 + num l ≤ l.length := by
          rcases Nat.lt_or_ge l.length (6 + num l) with h | h
          · exfalso
            apply h1
            unfold stopE
            split <;> try omega
            split <;> try omega
          · exact h
        have := ih (l.drop (6 + num l))
        rw [List.length_drop] at this
        simp only [List.length_cons]
        omega
theorem scan_le (l : List UInt8) : (scan l).1.length ≤ l.length ∧ (scan l).2.1 ≤ l.length := scanF_le _ l
theorem crc_nine : crc [49, 50, 51, 52, 53, 54, 55, 56, 57] = 3421780262 := by kernel_rfl
end Go.Proofs.YtdnbclhidpkpgaaGreat
