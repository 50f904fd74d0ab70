/-
  The contract of the reference's Scan. No condition.
-/
import Derived.Test.YtameeeblhllemaaRefFrame
import Derived.Test.YtameeeblhllemaaRefScanLaw
import Derived.Deep.DeepCutAuto
import Derived.BigQuiet
namespace Go.Proofs.Ytameeeblhllemaa
open Go.RowKit

theorem refscan_next {w w2 w5 : World} {b bo : List UInt8} {K nq m lc c5 nm dd g O : Nat} {LA A5 : Option Addr} {ss : List SV} {L : List (List UInt8)} {ob : Obj} (hm3 : Mod none_ w w2) (hL3 : Lst w2 LA m lc ss L) (hLA : ∀ i, fp LA i → w.heap.size ≤ i) (hb3 : RdB w2 (some ⟨g, O, none⟩) nm bo) (hg : g < w.heap.size)
    (hd : nm ≤ dd) (hdd : dd ≤ 9223372036854775807) (hown5 : Ow w5 22 1 A5 (m + 1) c5 (ss.map SV.v ++ [.slice (some ⟨g, O, none⟩) nm dd])) (hmod5 : Mod (fp LA) ((w2.drewN nq).alloc ob) w5) (hA5 : A5 = LA ∨ A5 = some ⟨((w2.drewN nq).alloc ob).heap.size, 0, none⟩) (hgo : ScanAt b K (L ++ [bo])) (hmk : m + 1 ≤ K) : ScanRel w b K (.slice A5 (m + 1) c5) w5 := by
  have hL5 : Lst ((w2.drewN nq).alloc ob) LA m lc ss L := (hL3.mod0 ((Mod.refl none_ w2).drewN nq)).mod0 ((Mod.refl none_ _).alloc _)
  have hmm : Mod none_ w ((w2.drewN nq).alloc ob) := (hm3.drewN nq).alloc ob
  have ht : Txt1 ((w2.drewN nq).alloc ob) LA ⟨some ⟨g, O, none⟩, nm, dd⟩ bo := by
    refine ⟨Rd.alloc (RdB.drewN_ hb3 nq) _, hd, hdd, fun _ k hk => ?_⟩
    obtain ⟨a, ha, rfl⟩ := hk
    cases ha
    exact ⟨Nat.lt_of_lt_of_le hg hmm.size, fun hf => by have := hLA _ hf; simp only at this; omega⟩
  have hL6 := hL5.push ht hown5 hmod5 (by rcases hA5 with h | h; exact .inl h; exact .inr ⟨_, h, Nat.le_refl _⟩)
  refine ⟨A5, m + 1, c5, _, _, rfl, hL6, ?_, hgo, hmm.then hmod5 fun i hi hf => by have := hLA i hf; omega, hmk⟩
  rintro i ⟨a, ha, rfl⟩
  rcases hA5 with rfl | rfl
  · exact hLA _ ⟨a, ha, rfl⟩
  · cases ha; exact hmm.size

theorem rdb_pre {w : World} {g O q m : Nat} {r : List UInt8} (hget : ∀ i, i < q → w.cell? ⟨g, O + i, none⟩ = some (.int .u8 ((r.getD i 0).toNat : Int))) (hr : r.length = q) (h : m ≤ q) : RdB w (some ⟨g, O, none⟩) m (r.take m) := by
  have hl : (r.take m).length = m := by rw [List.length_take]; omega
  refine ⟨by rw [bvs_length, hl]; omega, fun _ => ⟨_, rfl, fun j u hu => ?_⟩⟩
  have hj : j < m := by
    rcases Nat.lt_or_ge j m with h1 | h1
    · exact h1
    · rw [List.getElem?_eq_none (by rw [bvs_length, hl]; exact h1)] at hu; cases hu
  rw [bvs_get (by rw [hl]; exact hj)] at hu
  have e : (⟨g, O, none⟩ : Addr).add j = ⟨g, O + j, none⟩ := by unfold Addr.add; split <;> simp_all
  rw [e, hget j (by omega), ← hu]
  have : r.getD j 0 = (r.take m)[j]'(by rw [hl]; exact hj) := by
    simp [List.getD, List.getElem?_eq_getElem (show j < r.length by omega)]
  rw [this]

set_option maxRecDepth 100000 in
set_option maxHeartbeats 2000000 in
theorem refscan_ok (w : World) (A : Option Addr) (n c : Nat) (b : List UInt8) (h : RdB w A n b) (hn : n ≤ c) (hc : c ≤ 9223372036854775807) (hs : n ≤ 1000000) : Calls Try.prog 20 #[.slice A n c] w fun e w' => ScanPost w b e w' := by
  have hl := Lib.hid h.len
  have H := Lib.hid h
  obtain ⟨i0, hi, hz0, hz1, hz2⟩ := info_parts slinfo
  clear h
  go_enter Try.func20, Try.ntmps20
  go_wp2_with fail
  go_loopw [5, 6] (fun v i wr => ∃ k : Nat, i = .int .i64 k ∧ ScanRel w b k v wr ∧ k ≤ n) (fun _ i _ => n - (intOf i).toNat)
  case atStart => exact ⟨0, rfl, ⟨none, 0, 0, [], [], rfl, Lst.nil w, (fun k hk => by obtain ⟨a, ha, _⟩ := hk; cases ha), ScanAt.zero b, Mod.refl _ w, by omega⟩, by omega⟩
  case round =>
    obtain ⟨k, rfl, ⟨LA, m, lc, ss, L, rfl, hL, hLA, hsc, hm, hmk⟩, hk⟩ := hrel
    replace hL := Lib.hid hL
    replace hLA := Lib.hid hLA
    replace hsc := Lib.hid hsc
    by_cases hlt : k < n
    · obtain ⟨g, o, rfl, hcell⟩ := (H.out.mod0 hm).form (by omega) (by omega)
      have hblt : g < w.heap.size := H.out.lt (by omega) g ⟨_, rfl, rfl⟩
      replace hm := Lib.hid hm
      have hlb : b.length = n := hl.out
      obtain ⟨q, rfl⟩ : ∃ q, n = k + q := ⟨n - k, by omega⟩
      obtain ⟨d, rfl⟩ : ∃ d, c = k + d := ⟨c - k, by omega⟩
      have hql : (b.drop k).length = q := by rw [List.length_drop]; omega
      have hget : ∀ i, i < q → wr.cell? ⟨g, o + k + i, none⟩ = some (.int .u8 (((b.drop k).getD i 0).toNat : Int)) := by
        intro i hi
        have h1 : k + i < b.length := by omega
        have := hcell (k + i) _ (bvs_get h1)
        rw [← Nat.add_assoc] at this
        rw [this]
        have e : (b.drop k).getD i 0 = b[k + i] := by simp [List.getD, h1]
        rw [e]
      generalize hr : b.drop k = r at *
      replace hr := Lib.hid hr
      replace hlb := Lib.hid hlb
      have hql := Lib.hid hql
      by_cases hq2 : q < 2
      · have hst := hsc.out.stop (by have := hlb.out; omega) (by rw [hr.out, stop_short (by have := hql.out; omega)]; omega)
        rw [hr.out, stop_short (by have := hql.out; omega)] at hst
        replace hst := Lib.hid hst
        clear hcell hget
        go_wp2
        go_ret3
        exact scan_end hst.out hL.out hLA.out (hm.out) rfl
      · have b0 := hget 0 (by omega)
        have b1 := hget 1 (by omega)
        rw [Nat.add_zero] at b0
        have l0 := (r.getD 0 0).toNat_lt
        have l1 := (r.getD 1 0).toNat_lt
        have hnum : num r = (r.getD 0 0).toNat + 256 * (r.getD 1 0).toNat := rfl
        have hnl : num r < 65536 := by omega
        generalize (r.getD 0 0).toNat = x0 at *
        generalize (r.getD 1 0).toNat = x1 at *
        obtain ⟨nm, hnm⟩ : ∃ nm, nm = num r := ⟨_, rfl⟩
        rw [← hnm] at hnl hnum
        replace hnm := Lib.hid hnm
        have hor : (x0 : Int) + 256 * (x1 : Int) = (nm : Int) := by omega
        replace hnum := Lib.hid hnum
        by_cases hbad : nm < 1 ∨ 4096 < nm
        · have hse : stopE r = 3 := stop_num (by have := hql.out; omega) (by rw [← hnm.out]; exact hbad)
          have hst := hsc.out.stop (by have := hlb.out; omega) (by rw [hr.out, hse]; omega)
          rw [hr.out, hse] at hst
          replace hst := Lib.hid hst
          rcases hbad with hb1 | hb1
          · obtain rfl : nm = 0 := by omega
            clear hcell hget hse
            go_wp2_with (go_quiet (fail))
            go_ret3
            exact scan_end hst.out (hL.out.mod0 ((Mod.refl _ wr).drewN _)) hLA.out (hm.out.drewN _) rfl
          · have hb2 : ¬ (nm : Int) < 1 := by omega
            have hb3 : 4096 < (nm : Int) := by omega
            clear hcell hget hse
            go_wp2_with (go_quiet (fail))
            go_ret3
            exact scan_end hst.out (hL.out.mod0 ((Mod.refl _ wr).drewN _)) hLA.out (hm.out.drewN _) rfl
        · have g1 : 1 ≤ nm := by omega
          have g2 : nm ≤ 4096 := by omega
          have j1 : ¬ (nm : Int) < 1 := by omega
          have j2 : ¬ 4096 < (nm : Int) := by omega
          by_cases htorn : q < 6 + nm
          · have hse : stopE r = 4 := stop_torn (by have := hql.out; omega) (by rw [← hnm.out]; exact hbad) (by rw [← hnm.out, hql.out]; exact htorn)
            have hst := hsc.out.stop (by have := hlb.out; omega) (by rw [hr.out, hse]; omega)
            rw [hr.out, hse] at hst
            replace hst := Lib.hid hst
            clear hcell hget hse hbad
            go_wp2_with (go_quiet (fail))
            go_ret3
            exact scan_end hst.out (hL.out.mod0 ((Mod.refl _ wr).drewN _)) hLA.out (hm.out.drewN _) rfl
          · have hbody : RdB wr (some ⟨g, o + k + 6, none⟩) nm (body r) := by
              unfold body
              rw [← hnm.out]
              exact rdb_sub hget hql.out (by omega)
            have hpre : RdB wr (some ⟨g, o + k, none⟩) (6 + nm) (r.take (6 + nm)) := rdb_pre hget hql.out (by omega)
            replace hbody := Lib.hid hbody
            replace hpre := Lib.hid hpre
            have hgl := hblt
            clear hcell hget
            have hse : crc (body r) = sumOf r → stopE r = 0 := fun he => stop_no (by have := hql.out; omega) (by rw [← hnm.out]; exact hbad) (by rw [← hnm.out, hql.out]; exact htorn) he
            have hse3 : crc (body r) ≠ sumOf r → stopE r = 3 := fun he => stop_sum (by have := hql.out; omega) (by rw [← hnm.out]; exact hbad) (by rw [← hnm.out, hql.out]; exact htorn) he
            have hft : frameOf (body r) = r.take (6 + nm) ↔ crc (body r) = sumOf r := by
              have := frame_take (r := r) (by rw [← hnm.out, hql.out]; omega)
              rwa [← hnm.out] at this
            clear hbad
            replace hse := Lib.hid hse
            replace hse3 := Lib.hid hse3
            replace hft := Lib.hid hft
            go_wp2_with (go_quiet (fail))
            (with_reducible refine (refframe_yes _ _ _ _ (body r) (RdB.drewN_ hbody.out _) g1 g2).mono ?_)
            rintro e w2 ⟨B4, b4, rfl, ho4, hf4, hm2⟩
            have cv := conv_bytes _ _ b4 _ _ (show RdB w2 B4 (6 + nm) (frameOf (body r)) from ho4.rd)
            have cv' := conv_bytes _ _ d _ _ (show RdB w2 (some ⟨g, o + k, none⟩) (6 + nm) (r.take (6 + nm)) from Rd.mod0 (RdB.drewN_ hpre.out _) hm2)
            have hb3 := Lib.hid (show RdB w2 (some ⟨g, o + k + 6, none⟩) nm (body r) from Rd.mod0 (RdB.drewN_ hbody.out _) hm2)
            have hm3 := Lib.hid ((hm.out.drewN _).trans hm2)
            have hL3 := Lib.hid ((hL.out.mod0 ((Mod.refl _ wr).drewN _)).mod0 hm2)
            clear ho4 hf4 hm2 hpre hbody
            by_cases hcs : crc (body r) = sumOf r
            · have hgo := hsc.out.go (by have := hlb.out; omega) (by rw [hr.out]; exact hse.out hcs)
              rw [hr.out, ← hnm.out] at hgo
              replace hgo := Lib.hid hgo
              rw [hft.out.2 hcs] at cv
              replace hcs := Lib.hid hcs
              generalize r.take (6 + nm) = T at cv cv' hft
              go_upto_region 15 with (go_quiet (fail))
              clear cv cv' hft
              go_wp2_with (at_builtin; refine wpList_append_ow rfl (.tmp 66) (.tmp 71) 23 rfl 22 i0 _ 1 24 Try.underlying23 hi hz0 hz1 hz2 rfl (by omega) LA m lc (ss.map SV.v) rfl ((hL3.out.1.mod0 ((Mod.refl none_ w2).drewN _)).mod0 ((Mod.refl none_ _).alloc _)) (some ⟨w2.heap.size, 0, none⟩) 1 1 [.slice (some ⟨g, o + k + 6, none⟩) nm (d - 6)] rfl (rdn _ _ 1 1 _ _ (0, 0) rfl rfl) (by simp [Value.oneCell']) (by omega) (by omega) ?_; intro A5 c5 w5 hown5 hmod5 hA5)
              have hnext := refscan_next hm3.out hL3.out hLA.out hb3.out hblt (by omega) (by omega) hown5 hmod5 hA5 hgo.out (by omega)
              replace hnext := Lib.hid hnext
              clear hown5 hmod5 hA5
              go_wp2
              go_roundw
              case rel => exact ⟨k + (6 + nm), by go_num, hnext.out, by omega⟩
              case measure => simp [intOf]; omega
            · have hne := fun he => hcs (hft.out.1 he)
              have hse := hse3.out hcs
              have hst := hsc.out.stop (by have := hlb.out; omega) (by rw [hr.out, hse]; omega)
              rw [hr.out, hse] at hst
              replace hst := Lib.hid hst
              replace hcs := Lib.hid hcs
              generalize r.take (6 + nm) = T at cv cv' hft hne
              generalize frameOf (body r) = F at cv hft hne
              have e1 : (!F == T) = true := by simp; exact hne
              clear hse hne hft
              go_wp2_with (go_quiet (fail))
              go_ret3
              exact scan_end hst.out (hL3.out.mod0 ((Mod.refl _ w2).drewN _)) hLA.out (hm3.out.drewN _) rfl
    · have hst := hsc.out.done (by have := hl.out; omega)
      replace hst := Lib.hid hst
      replace hm := Lib.hid hm
      go_wp2
      go_ret3
      exact scan_end hst.out hL.out hLA.out (hm.out) rfl
end Go.Proofs.Ytameeeblhllemaa
