/-
  FrameJoin: the walk. No condition.
-/
import Derived.Test.YtameeeblhllemaaFLives
import Derived.Test.YtameeeblhllemaaOpenL
import Derived.Test.YtameeeblhllemaaMemG
namespace Go.Proofs.Ytameeeblhllemaa
open Go.RowKit

set_option maxRecDepth 100000 in
set_option maxHeartbeats 2000000 in
theorem join_walk (w : World) (A : Option Addr) (n d : Nat) (ss : List SV) (ls : List (List UInt8)) (cl : LCame w A n d ss ls) (B : Option Addr) (m f : Nat) (l : List UInt8) (cm : Came w 1 1 B m f (bvs l)) :
    Calls Try.prog 8 #[.slice A n d, .slice B m f] w fun e w' => e = .returned (.bool true) ∧ Below w.heap.size w w' := by
  obtain ⟨i0, hi, hz0, hz1, hz2⟩ := info_parts u8info
  obtain ⟨i1, hj, hy0, hy1, hy2⟩ := info_parts slinfo
  have HL := Lib.hid cl.rdl
  have hnd : n ≤ d := cl.1.2.1
  have hlt := Lib.hid (LCame.lt cl)
  clear cl
  have HB := Lib.hid (show RdB w B m l from cm.1)
  have hmf : m ≤ f ∧ f ≤ 140737488351232 := ⟨cm.2.1, by have := cm.2.2.2.1; omega⟩
  clear cm
  go_enter Try.func8, Try.ntmps8
  go_wp2_with fail
  refine (lives_ok _).mono ?_
  rintro e w1 ⟨rfl, hm1⟩
  have hm1 := Lib.hid hm1
  have HL1 := Lib.hid (show RdL w1 A n ss ls from HL.out.mod0 hm1.out)
  go_wp2_with fail
  refine (few_ok _ _ _ _ _ _ HL1.out hnd (fun i s hs h0 k hk => Nat.lt_of_lt_of_le (hlt.out i s hs h0 k hk) hm1.out.size)).mono ?_
  rintro e w2 ⟨v, rfl, LA, c2, s2, rfl, hL2, hLA, hm2, _⟩
  have hn20 : min n 20 ≤ 20 := by omega
  generalize hmm : min n 20 = q at hL2 hn20
  replace hmm := Lib.hid hmm
  replace hL2 := Lib.hid hL2
  replace hLA := Lib.hid hLA
  replace hm2 := Lib.hid (hm1.out.trans hm2)
  go_wp2_with fail
  refine (wrap_ok _ _ _ _ _ _ hL2.out.rdl (by omega)).mono ?_
  rintro e w3 ⟨hm3, h3⟩
  replace hm3 := Lib.hid (hm2.out.trans hm3)
  rcases h3 with ⟨hok, A3, n3, c3, rfl, ho3, hf3, hn3⟩ | ⟨_, rfl⟩
  case inr =>
    go_wp2
    go_ret
    exact ⟨rfl, hm3.out.below0⟩
  have hlen3 := ho3.len
  have hq : (cutL ls q).length = q := hL2.out.len
  have hn82 : n3 ≤ 82040 := by rw [hq] at hn3; omega
  have hb3 : RdB w3 A3 n3 ((cutL ls q).flatMap frameOf) := ho3.rd
  have hlaw : ∀ r, scan ((cutL ls q).flatMap frameOf ++ r) = (cutL ls q ++ (scan r).1, (scan r).2.1 + n3, (scan r).2.2) := by intro r; rw [scan_flat _ r hok, hlen3, Nat.add_comm n3]
  generalize (cutL ls q).flatMap frameOf = bb at hb3 hlaw
  replace hb3 := Lib.hid hb3
  replace hq := Lib.hid hq
  clear hok ho3 hf3 hn3 hlen3
  have HB' := Lib.hid (rdb_take HB.out (k := min m 5000) (by omega))
  clear HB
  generalize hmx : min m 5000 = p at HB'
  generalize l.take p = b at HB'
  have hp5 : p ≤ 5000 := by omega
  have hpm : p ≤ m := by omega
  replace hmx := Lib.hid hmx
  have hlaw := Lib.hid (hlaw b)
  have hle := Lib.hid (scan_le b)
  have hbl := Lib.hid (show b.length = p from RdB.len HB'.out)
  go_wp2_with fail
  refine (early_ok _ _ _ _ hmf.1 hmf.2).mono ?_
  rintro e w4 ⟨rfl, rfl⟩
  rw [hmx.out]
  go_wp2_with fail
  refine (scan_ok _ _ _ _ b (show RdB w3 B p b from HB'.out.mod0 hm3.out) (by omega) (by omega) (by omega)).mono ?_
  rintro e w5 ⟨LX, nx, cx, sx, rfl, hX, _, hm5⟩
  have hb5 := Lib.hid (show RdB w5 A3 n3 bb from hb3.out.mod0 hm5)
  replace hm5 := Lib.hid (hm3.out.trans hm5)
  have hb5' := Lib.hid (show RdB w5 B p b from HB'.out.mod0 hm5.out)
  have hnx : nx ≤ 5000 := by rw [← hX.len]; have := hle.out.1; rw [hbl.out] at this; omega
  have hsx : (scan b).2.1 ≤ 5000 := by have := hle.out.2; rw [hbl.out] at this; omega
  replace hX := Lib.hid hX
  clear hb3 hle
  go_wp2_with (first
    | (at_builtin; refine wpList_append_ow rfl (.const (.slice none 0 0)) (.tmp 35) 22 rfl 5 i0 _ 1 1 Try.underlying22 hi hz0 hz1 hz2 rfl (by omega) none 0 0 [] rfl (Ow.nil _ _ _) A3 n3 c3 (bvs bb) rfl hb5.out (bvs_one _) (by omega) (by omega) ?_; intro A6 c6 w6 hown6 hmod6 hA6; have ho6 := Lib.hid (show Ow w6 5 1 A6 n3 c6 (bvs bb) by simpa using hown6); have hm6 := Lib.hid hmod6; replace hA6 := Lib.hid hA6; clear hown6 hmod6)
    | (at_builtin; refine wpList_append_ow rfl (.tmp 36) (.tmp 37) 22 rfl 5 i0 _ 1 1 Try.underlying22 hi hz0 hz1 hz2 rfl (by omega) A6 n3 c6 (bvs bb) rfl ho6.out B p f (bvs b) rfl (hb5'.out.mod0 hm6.out.nil_own) (bvs_one _) (by omega) (by omega) ?_; intro A7 c7 w7 hown7 hmod7 hA7))
  have hm7 := Lib.hid (Mod.then_own hm6.out hA6.out hmod7)
  have hb7 := Lib.hid (show RdB w7 A7 (n3 + p) (bb ++ b) from by show Rd _ _ _ _ _; rw [bvs_append]; exact hown7.rd)
  have hnc : n3 + p ≤ c7 ∧ c7 ≤ 9223372036854775807 := ⟨hown7.2.1, hown7.2.2.1⟩
  clear hmod7 hown7 hA7 ho6 hm6 hA6 hb5 hb5'
  refine (scan_ok _ _ _ _ _ hb7.out hnc.1 hnc.2 (by omega)).mono ?_
  rintro e w8 ⟨LY, ny, cy, sy, rfl, hY, _, hm8⟩
  rw [hlaw.out] at hY ⊢
  replace hm7 := Lib.hid (hm7.out.trans hm8)
  have hm8 := Lib.hid (hm5.out.trans hm7.out)
  replace hY := Lib.hid hY
  have hny : ny ≤ 5020 := by rw [← hY.out.len, List.length_append, hq.out, hX.out.len]; omega
  clear hb7
  go_wp2_with fail
  refine (few_ok _ _ _ _ _ _ (HL.out.mod0 hm8.out) hnd (fun i s hs h0 k hk => Nat.lt_of_lt_of_le (hlt.out i s hs h0 k hk) hm8.out.size)).mono ?_
  rintro e w9 ⟨v, rfl, L9, c9, s9, rfl, hL9, _, hm9, _⟩
  rw [hmm.out] at hL9 ⊢
  replace hm9 := Lib.hid hm9
  have hv9 := Lib.hid (show ∀ u ∈ s9.map SV.v, u.oneCell' = true by intro u hu; simp only [List.mem_map] at hu; obtain ⟨s, _, rfl⟩ := hu; rfl)
  have hvx := Lib.hid (show ∀ u ∈ sx.map SV.v, u.oneCell' = true by intro u hu; simp only [List.mem_map] at hu; obtain ⟨s, _, rfl⟩ := hu; rfl)
  have hR9 := Lib.hid hL9.rdl
  clear hL9
  have hX9 := Lib.hid (show RdL w9 LX nx sx (scan b).1 from (hX.out.rdl.mod0 hm7.out).mod0 hm9.out)
  have hY9 := Lib.hid (show RdL w9 LY ny sy (cutL ls q ++ (scan b).1) from hY.out.rdl.mod0 hm9.out)
  go_wp2_with (first
    | (at_builtin; refine wpList_append_owg rfl (.const (.slice none 0 0)) (.tmp 57) 23 rfl 22 i1 _ 1 24 Try.underlying23 hj hy0 hy1 hy2 rfl (by omega) none 0 0 [] rfl (Ow.nil _ _ _) L9 q c9 (s9.map SV.v) rfl hR9.out.1 hv9.out (by omega) (by omega) ?_; intro A6 c6 w10 hown6 hmod6 hA6; have ho6 := Lib.hid (show Ow w10 22 1 A6 q c6 (s9.map SV.v) by simpa using hown6); have hm6 := Lib.hid hmod6; replace hA6 := Lib.hid hA6; clear hown6 hmod6)
    | (at_builtin; refine wpList_append_owg rfl (.tmp 58) (.tmp 59) 23 rfl 22 i1 _ 1 24 Try.underlying23 hj hy0 hy1 hy2 rfl (by omega) A6 q c6 (s9.map SV.v) rfl ho6.out LX nx cx (sx.map SV.v) rfl (hX9.out.1.mod0 hm6.out.nil_own) hvx.out (by omega) (by omega) ?_; intro A11 c11 w11 hown11 hmod11 hA11))
  have hm11 := Mod.then_own hm6.out hA6.out hmod11
  have hR11 : RdL w11 A11 (q + nx) (s9 ++ sx) (cutL ls q ++ (scan b).1) := RdL.app (hR9.out.mod0 hm11) (hX9.out.mod0 hm11) (by rw [List.map_append]; exact hown11.rd)
  refine (same3_ok _ _ _ _ _ _ _ _ _ _ _ (hY9.out.mod0 hm11) hR11 (by omega)).mono ?_
  rintro e w12 ⟨rfl, hm12⟩
  have hfin := Lib.hid (((hm8.out.trans hm9.out).trans hm11).trans hm12)
  rw [show decide (cutL ls q ++ (scan b).1 = cutL ls q ++ (scan b).1) = true from decide_eq_true rfl]
  clear hm11 hR11 hown11 hmod11 hA11 hm12 hR9 hX9 hY9 hm9
  go_wp2
  go_ret
  exact ⟨rfl, hfin.out.below0⟩
end Go.Proofs.Ytameeeblhllemaa
