/-
  FrameScans: the walk. No condition.
-/
import Derived.Test.YtameeeblhllemaaRefScan
import Derived.Test.YtameeeblhllemaaOpen
namespace Go.Proofs.Ytameeeblhllemaa
open Go.RowKit

set_option maxRecDepth 100000 in
set_option maxHeartbeats 2000000 in
theorem scans_walk (w : World) (B : Option Addr) (m f : Nat) (l : List UInt8) (cm : Came w 1 1 B m f (bvs l)) :
    Calls Try.prog 4 #[.slice B m f] w fun e w' => e = .returned (.bool true) ∧ Below w.heap.size w w' := by
  have HB := Lib.hid (show RdB w B m l from cm.1)
  have hmf : m ≤ f ∧ f ≤ 140737488351232 := ⟨cm.2.1, by have := cm.2.2.2.1; omega⟩
  clear cm
  go_enter Try.func4, Try.ntmps4
  go_wp2_with fail
  refine (lives_ok _).mono ?_
  rintro e w1 ⟨rfl, hm1⟩
  replace hm1 := Lib.hid hm1
  go_wp2_with fail
  have HB' := Lib.hid (rdb_take HB.out (k := min m 5000) (by omega))
  clear HB
  refine (early_ok _ _ _ _ hmf.1 hmf.2).mono ?_
  rintro e w2 ⟨rfl, rfl⟩
  generalize hmx : min m 5000 = p at HB' ⊢
  generalize l.take p = b at HB'
  have hp5 : p ≤ 5000 := by omega
  have hpf : p ≤ f := by omega
  clear hmx
  have hbl := Lib.hid (show b.length = p from RdB.len HB'.out)
  have hb1 := Lib.hid (show RdB w1 B p b from HB'.out.mod0 hm1.out)
  go_wp2_with fail
  refine (scan_ok _ _ _ _ b hb1.out (by omega) (by omega) (by omega)).mono ?_
  rintro e w3 ⟨LX, nx, cx, sx, rfl, hX, _, hm3⟩
  have hnx : nx ≤ 5000 := by rw [← hX.len]; have := (scan_le b).1; rw [hbl.out] at this; omega
  replace hX := Lib.hid hX
  replace hm3 := Lib.hid hm3
  have hb3 := Lib.hid (show RdB w3 B p b from hb1.out.mod0 hm3.out)
  go_wp2_with fail
  refine (refscan_ok _ _ _ _ b hb3.out (by omega) (by omega) (by omega)).mono ?_
  rintro e w4 ⟨LY, ny, cy, sy, rfl, hY, _, hm4⟩
  replace hY := Lib.hid hY
  replace hm4 := Lib.hid hm4
  go_wp2_with fail
  refine (same3_ok _ _ _ _ _ _ _ _ _ _ _ (hX.out.rdl.mod0 hm4.out) hY.out.rdl (by omega)).mono ?_
  rintro e w5 ⟨rfl, hm5⟩
  rw [show decide ((scan b).1 = (scan b).1) = true from decide_eq_true rfl]
  have hfin := Lib.hid (((hm1.out.trans hm3.out).trans hm4.out).trans hm5)
  clear hm5
  go_wp2
  go_ret
  exact ⟨rfl, hfin.out.below0⟩
end Go.Proofs.Ytameeeblhllemaa
