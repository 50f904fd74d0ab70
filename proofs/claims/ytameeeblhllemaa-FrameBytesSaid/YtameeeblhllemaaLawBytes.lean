/-
  FrameBytes: the walk. No condition.
-/
import Derived.Test.YtameeeblhllemaaRefFrame
import Derived.Test.YtameeeblhllemaaOpenL
namespace Go.Proofs.Ytameeeblhllemaa
open Go.RowKit

noncomputable def fOut (l : List UInt8) : List UInt8 := if 1 ≤ l.length ∧ l.length ≤ 4096 then frameOf l else []
def fErr (l : List UInt8) : Int := if 1 ≤ l.length ∧ l.length ≤ 4096 then 0 else 1
theorem frame_any (w : World) (A : Option Addr) (n c : Nat) (l : List UInt8) (h : RdB w A n l) : Calls Try.prog 12 #[.slice A n c] w fun e w' =>
    ∃ A' k c', e = .returned (.tuple #[.slice A' k c', .int .i64 (fErr l)]) ∧ RdB w' A' k (fOut l) ∧ Mod none_ w w' := by
  have hl := h.len
  by_cases hq : 1 ≤ n ∧ n ≤ 4096
  · refine (frame_yes w A n c l h hq.1 hq.2).mono ?_
    rintro e w' ⟨A', c', rfl, ho, _, hm⟩
    rw [← hl] at hq
    exact ⟨A', _, c', by unfold fErr; rw [if_pos hq], by unfold fOut; rw [if_pos hq]; exact ho.rd, hm⟩
  · refine (frame_no w A n c (by omega)).mono ?_
    rintro e w' ⟨rfl, rfl⟩
    rw [← hl] at hq
    exact ⟨none, 0, 0, by unfold fErr; rw [if_neg hq], by unfold fOut; rw [if_neg hq]; exact Rd.none_, Mod.refl _ _⟩
theorem refframe_any (w : World) (A : Option Addr) (n c : Nat) (l : List UInt8) (h : RdB w A n l) : Calls Try.prog 13 #[.slice A n c] w fun e w' =>
    ∃ A' k c', e = .returned (.tuple #[.slice A' k c', .int .i64 (fErr l)]) ∧ RdB w' A' k (fOut l) ∧ Mod none_ w w' := by
  have hl := h.len
  by_cases hq : 1 ≤ n ∧ n ≤ 4096
  · refine (refframe_yes w A n c l h hq.1 hq.2).mono ?_
    rintro e w' ⟨A', c', rfl, ho, _, hm⟩
    rw [← hl] at hq
    exact ⟨A', _, c', by unfold fErr; rw [if_pos hq], by unfold fOut; rw [if_pos hq]; exact ho.rd, hm⟩
  · refine (refframe_no w A n c (by omega)).mono ?_
    rintro e w' ⟨rfl, rfl⟩
    rw [← hl] at hq
    exact ⟨none, 0, 0, by unfold fErr; rw [if_neg hq], by unfold fOut; rw [if_neg hq]; exact Rd.none_, Mod.refl _ _⟩
open Classical in
noncomputable def wOut (ls : List (List UInt8)) : List UInt8 := if ∀ l ∈ ls, okL l then ls.flatMap frameOf else []
open Classical in
noncomputable def wErr (ls : List (List UInt8)) : Int := if ∀ l ∈ ls, okL l then 0 else 1
theorem wrap_post {w w' : World} {ls : List (List UInt8)} {e : Ending} (h : WrapPost w ls e w') : ∃ A' k c', e = .returned (.tuple #[.slice A' k c', .int .i64 (wErr ls)]) ∧ RdB w' A' k (wOut ls) ∧ Mod none_ w w' := by
  obtain ⟨hm, ⟨hok, A', k, c', rfl, ho, _, _⟩ | ⟨⟨l, hl, hno⟩, rfl⟩⟩ := h
  · exact ⟨A', k, c', by unfold wErr; rw [if_pos hok], by unfold wOut; rw [if_pos hok]; exact ho.rd, hm⟩
  · have hn : ¬ ∀ l ∈ ls, okL l := fun h => hno (h l hl)
    exact ⟨none, 0, 0, by unfold wErr; rw [if_neg hn], by unfold wOut; rw [if_neg hn]; exact Rd.none_, hm⟩

set_option maxRecDepth 100000 in
set_option maxHeartbeats 2000000 in
theorem bytes_walk (w : World) (B : Option Addr) (m f : Nat) (l : List UInt8) (cm : Came w 1 1 B m f (bvs l)) (A : Option Addr) (n d : Nat) (ss : List SV) (ls : List (List UInt8)) (cl : LCame w A n d ss ls) :
    Calls Try.prog 3 #[.slice B m f, .slice A n d] w fun e w' => e = .returned (.bool true) ∧ Below w.heap.size w w' := by
  have HL := Lib.hid cl.rdl
  have hnd : n ≤ d := cl.1.2.1
  have hlt := Lib.hid (LCame.lt cl)
  clear cl
  have HB := Lib.hid (show RdB w B m l from cm.1)
  have hmf : m ≤ f ∧ f ≤ 140737488351232 := ⟨cm.2.1, by have := cm.2.2.2.1; omega⟩
  clear cm
  go_enter Try.func3, Try.ntmps3
  go_wp2_with fail
  refine (lives_ok _).mono ?_
  rintro e w1 ⟨rfl, hm1⟩
  replace hm1 := Lib.hid hm1
  go_wp2_with fail
  have HB' := Lib.hid (rdb_take HB.out (k := min m 5000) (by omega))
  clear HB
  refine (early_ok _ _ _ _ hmf.1 hmf.2).mono ?_
  rintro e w2 ⟨rfl, rfl⟩
  generalize hmx : min m 5000 = p at HB' ⊢
  generalize l.take p = b at HB'
  have hp5 : p ≤ 5000 := by omega
  have hpf : p ≤ f := by omega
  clear hmx
  go_wp2_with fail
  refine (few_ok _ _ _ _ _ _ (HL.out.mod0 hm1.out) hnd (fun i s hs h0 k hk => Nat.lt_of_lt_of_le (hlt.out i s hs h0 k hk) hm1.out.size)).mono ?_
  rintro e w2 ⟨v, rfl, LA, c2, s2, rfl, hL2, _, hm2, _⟩
  have hn20 : min n 20 ≤ 20 := by omega
  generalize min n 20 = q at hL2 hn20 ⊢
  replace hm2 := Lib.hid (hm1.out.trans hm2)
  have hL2' := Lib.hid (show RdL w2 LA q s2 (cutL ls q) from hL2.rdl)
  clear hL2
  generalize cutL ls q = ms at hL2'
  have hb2 := Lib.hid (show RdB w2 B p b from HB'.out.mod0 hm2.out)
  go_wp2_with fail
  refine (frame_any _ _ _ _ b hb2.out).mono ?_
  rintro e w3 ⟨A3, n3, c3, rfl, hx3, hm3⟩
  replace hx3 := Lib.hid hx3
  replace hm3 := Lib.hid hm3
  have hb3 := Lib.hid (show RdB w3 B p b from hb2.out.mod0 hm3.out)
  go_wp2_with fail
  refine (refframe_any _ _ _ _ b hb3.out).mono ?_
  rintro e w4 ⟨A4, n4, c4, rfl, hx4, hm4⟩
  replace hx4 := Lib.hid hx4
  replace hm4 := Lib.hid hm4
  have hL4 := Lib.hid ((hL2'.out.mod0 hm3.out).mod0 hm4.out)
  go_wp2_with fail
  refine (wrap_ok _ _ _ _ _ _ hL4.out (by omega)).mono ?_
  rintro e w5 h5
  obtain ⟨A5, n5, c5, rfl, hx5, hm5⟩ := wrap_post h5
  replace hx5 := Lib.hid hx5
  replace hm5 := Lib.hid hm5
  have hL5 := Lib.hid (hL4.out.mod0 hm5.out)
  go_wp2_with fail
  refine (refwrap_ok _ _ _ _ _ _ hL5.out (by omega)).mono ?_
  rintro e w6 h6
  obtain ⟨A6, n6, c6, rfl, hx6, hm6⟩ := wrap_post h6
  replace hx6 := Lib.hid hx6
  replace hm6 := Lib.hid hm6
  have hb6 := Lib.hid (show RdB w6 B p b from ((hb3.out.mod0 hm4.out).mod0 hm5.out).mod0 hm6.out)
  have hx5' := Lib.hid (show RdB w6 A5 n5 (wOut ms) from hx5.out.mod0 hm6.out)
  have hx4' := Lib.hid (show RdB w6 A4 n4 (fOut b) from (hx4.out.mod0 hm5.out).mod0 hm6.out)
  have hx3' := Lib.hid (show RdB w6 A3 n3 (fOut b) from ((hx3.out.mod0 hm4.out).mod0 hm5.out).mod0 hm6.out)
  have hm6' := Lib.hid ((((hm2.out.trans hm3.out).trans hm4.out).trans hm5.out).trans hm6.out)
  clear hx3 hx4 hx5 hL4 hL5 hL2' hm3 hm4 hm5 hm6 hb2 hb3 h5 h6
  go_wp2_with fail
  refine (sum_ok _ _ _ _ b hb6.out (by omega)).mono ?_
  rintro e w7 ⟨rfl, hm7⟩
  replace hm7 := Lib.hid hm7
  have hb7 := Lib.hid (show RdB w7 B p b from hb6.out.mod0 hm7.out)
  go_wp2_with fail
  refine (refsum_ok _ _ _ _ b hb7.out (by omega)).mono ?_
  rintro e w8 ⟨rfl, rfl⟩
  go_wp2_with fail
  refine (same2_ok _ _ _ _ _ _ _ _ _ (hx3'.out.mod0 hm7.out) (hx4'.out.mod0 hm7.out)).mono ?_
  rintro e w8 ⟨rfl, hm8⟩
  rw [show decide (fOut b = fOut b) = true from decide_eq_true rfl]
  replace hm8 := Lib.hid (hm7.out.trans hm8)
  go_wp2_with fail
  refine (same2_ok _ _ _ _ _ _ _ _ _ (hx5'.out.mod0 hm8.out) (hx6.out.mod0 hm8.out)).mono ?_
  rintro e w9 ⟨rfl, hm9⟩
  rw [show decide (wOut ms = wOut ms) = true from decide_eq_true rfl]
  replace hm9 := Lib.hid ((hm6'.out.trans hm8.out).trans hm9)
  go_wp2
  go_ret
  exact ⟨rfl, hm9.out.below0⟩
end Go.Proofs.Ytameeeblhllemaa
