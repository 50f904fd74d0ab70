/-
  PackOnce: the walk. No condition.
-/
import Derived.Test.YtnjgcdijpkbloaaPackLives
import Derived.Test.YtnjgcdijpkbloaaPackPlain
import Derived.Test.YtnjgcdijpkbloaaSameB
import Derived.Test.YtnjgcdijpkbloaaOpen
namespace Go.Proofs.Ytnjgcdijpkbloaa
set_option linter.unusedVariables false
open Go.RowKit
theorem early_ok (w : World) (A : Option Addr) (n c : Nat) (hn : n ≤ c) (_hc : c ≤ 140737488351232) : Calls Try.prog 17 #[.slice A n c] w fun e w' => e = .returned (.slice A (min n 300) c) ∧ w = w' := by
  have e1 : (min (n : Int) 300).toNat = min n 300 := by omega
  have e2 := Lib.hid e1
  clear e1
  go_enter Try.func17, Try.ntmps17
  go_wp2
  go_ret
  refine ⟨?_, rfl⟩
  rw [← e2.out]
  rfl
theorem same2_yes (w : World) (A B : Option Addr) (n m d1 d2 : Nat) (l : List UInt8) (ha : RdB w A n l) (hb : RdB w B m l) :
    Calls Try.prog 18 #[.slice A n d1, .slice B m d2] w fun e w' => e = .returned (.bool true) ∧ Mod none_ w w' :=
  (same2_ok w A B n m d1 d2 l l ha hb).mono fun e w' h => ⟨by rw [h.1, decide_eq_true rfl], h.2⟩
theorem Mod.only_new {w w1 w2 : World} {g : Nat} (h : Mod none_ w w1) (k : Mod (only g) w1 w2) (hg : w.heap.size ≤ g) : Mod none_ w w2 :=
  h.then k fun i hi hk => by unfold only at hk; omega
set_option maxRecDepth 100000 in
set_option maxHeartbeats 2000000 in
theorem packOnce_walk (w : World) (A : Option Addr) (n c : Nat) (l : List UInt8) (cm : Came w 1 1 A n c (bvs l)) (at_ : Int) :
    Calls Try.prog 5 #[.slice A n c, .int .i64 at_] w fun e w' => e = .returned (.bool true) ∧ Below w.heap.size w w' := by
  obtain ⟨hr, hnc, hc63, hcb, hlt⟩ := cm
  have hrb : RdB w A n l := hr
  clear hr
  replace hrb := Lib.hid hrb
  replace hlt := Lib.hid hlt
  go_enter Try.func5, Try.ntmps5
  go_wp2_with fail
  refine (lives_ok _).mono ?_
  rintro e w1 ⟨rfl, hm1⟩
  dsimp only
  replace hm1 := Lib.hid hm1
  go_wp2_with fail
  refine (early_ok _ _ _ _ hnc (by omega)).mono ?_
  rintro e w1' ⟨rfl, rfl⟩
  dsimp only
  obtain ⟨q, hq⟩ : ∃ q, q = min n 300 := ⟨_, rfl⟩
  rw [← hq]
  have hq3 : q ≤ 300 := by omega
  have hqc : q ≤ c := by omega
  have hqn : q ≤ n := by omega
  have hb1 : RdB w1 A q (l.take q) := rdb_take (hrb.out.mod0 hm1.out) (by omega)
  generalize l.take q = b at hb1
  have hbl := hb1.len
  replace hq := Lib.hid hq
  replace hb1 := Lib.hid hb1
  replace hbl := Lib.hid hbl
  go_wp2_with fail
  refine (new_ok w1 A q c b hb1.out (by omega)).mono ?_
  rintro e w2 ⟨g, B, rfl, hR2, hg, hB, hBl, hm2⟩
  dsimp only
  have hm2' := hm1.out.trans hm2
  have hgw : w.heap.size ≤ g := by have := hm1.out.size; omega
  have hb2 := Lib.hid (show RdB w2 A q b from hb1.out.mod0 hm2)
  replace hR2 := Lib.hid hR2
  replace hm2 := Lib.hid hm2
  replace hm2' := Lib.hid hm2'
  go_wp2_with fail
  refine (rnums_ok w2 g B 0 b 300 hR2.out hBl (by omega)).mono ?_
  obtain ⟨xs, e1, r, hx⟩ : ∃ xs e1 r, rns 300 b 0 = (xs, e1, r) := ⟨_, _, _, rfl⟩
  rw [hx]
  rintro e w3 ⟨X, xn, xc, rfl, hX, hXf, hR3, hm3⟩
  dsimp only at hX hR3 ⊢
  have hxl := hX.len
  have hxc : xn ≤ xc := hX.2.1
  subst hxl
  have hm3' := hm2'.out.only_new hm3 hgw
  replace hX := Lib.hid hX
  replace hXf := Lib.hid hXf
  replace hR3 := Lib.hid hR3
  replace hm3 := Lib.hid hm3
  replace hm3' := Lib.hid hm3'
  by_cases he : e1 = 0
  · subst he
    obtain ⟨k, k1, k2, rfl, k4, k5, k6, k7⟩ := rns_yes hx
    have hkq : k ≤ q := by have := hbl.out; omega
    have hk3 : xs.length ≤ 300 := by omega
    obtain ⟨v, hv1, hv2⟩ := umod at_ (k : Int) (by omega) (by omega)
    have hvk : v < k := by omega
    have hk7 := k7 v hvk
    have hb3 : RdB w3 A q b := Rd.mod' hb2.out hm3.out (fun h0 j hj hk => by unfold only at hk; have := hlt.out (by omega) j hj; omega)
    obtain ⟨d, rfl⟩ : ∃ d, q = k + d := ⟨q - k, by omega⟩
    have hrl : Hid ((b.drop k).length = d) := Lib.hid (by rw [List.length_drop, hbl.out]; omega)
    have hvk0 : (0 : Int) ≤ (v : Int) := by omega
    have hnum : Hid (RdI w3 X xs.length xs) := Lib.hid hX.out.rd
    have hbk : Hid (RdB w3 A v (b.take v)) := Lib.hid (rdb_take hb3 (by omega))
    have hbk2 : Hid (RdB w3 A k (b.take k)) := Lib.hid (rdb_take hb3 (by omega))
    replace k4 := Lib.hid k4
    replace k5 := Lib.hid k5
    replace k7 := Lib.hid k7
    replace hk7 := Lib.hid hk7
    replace hb3 := Lib.hid hb3
    replace hx := Lib.hid hx
    go_wp2_with fail
    refine (left_ok _ _ _ _ _ hR3.out).mono ?_
    rintro e w4 ⟨rfl, rfl⟩
    rw [hrl.out]
    dsimp only
    go_wp2_with fail
    refine (new_ok w3 A v c _ hbk.out (by omega)).mono ?_
    rintro e w4 ⟨g4, B4, rfl, hR4, hg4, hB4, hBl4, hm4⟩
    dsimp only
    have hm4' := hm3'.out.trans hm4
    have hgw4 : w.heap.size ≤ g4 := by have := hm3'.out.size; omega
    have hnum4 := Lib.hid (Rd.mod0 hnum.out hm4)
    have hbk4 := Lib.hid (Rd.mod0 hbk2.out hm4)
    have hlt4 : Hid (w3.heap.size ≤ w4.heap.size) := Lib.hid hm4.size
    replace hR4 := Lib.hid hR4
    replace hm4 := Lib.hid hm4
    replace hm4' := Lib.hid hm4'
    go_wp2_with fail
    refine (rnums_ok w4 g4 B4 0 _ 300 hR4.out hBl4 (by omega)).mono ?_
    obtain ⟨xs5, e5, r5, hx5⟩ : ∃ xs5 e5 r5, rns 300 (b.take v) 0 = (xs5, e5, r5) := ⟨_, _, _, rfl⟩
    have he5 : e5 = 4 := by have := hk7.out; rw [hx5] at this; exact this
    subst he5
    rw [hx5]
    rintro e w5 ⟨Y, yn, yc, rfl, _, _, _, hm5⟩
    dsimp only
    have hm5' := hm4'.out.only_new hm5 hgw4
    have hnum5 : Hid (RdI w5 X xs.length xs) := Lib.hid (Rd.mod' hnum4.out hm5 (fun h0 j hj hk => by unfold only at hk; have := Rd.lt hX.out.rd h0 j hj; omega))
    have hbk5 : Hid (RdB w5 A k (b.take k)) := Lib.hid (Rd.mod' hbk4.out hm5 (fun h0 j hj hk => by unfold only at hk; have := hlt.out (by omega) j hj; omega))
    replace hx5 := Lib.hid hx5
    replace hm5 := Lib.hid hm5
    replace hm5' := Lib.hid hm5'
    clear hnum4 hbk4 hnum hbk hbk2
    have hnn := Lib.hid (nums_ok (w5.drew) X xs.length xc xs (Rd.mod0 hnum5.out (Mod.refl none_ _).drew) (by omega) k5.out)
    clear hm5 hm4 hR4 hR3 hm3 hR2 hm2 hlt4 hX hXf
    go_wp2_with fail
    go_region_with (first
      | (go_at_call 13; refine hnn.out.mono ?_; rintro e w6 ⟨Z, zc, rfl, hZ, hZf, hm6⟩; dsimp only; have hbk6 : Hid (RdB w6 A k (b.take k)) := Lib.hid (Rd.mod0 (Rd.mod0 hbk5.out (Mod.refl none_ _).drew) hm6); replace hZ := Lib.hid hZ; replace hm6 := Lib.hid hm6; clear hZf)
      | (go_at_call 18; refine (same2_yes _ Z A _ k zc c (numsB xs) hZ.out.rd (by rw [← k4.out]; exact hbk6.out)).mono ?_; rintro e w7 ⟨rfl, hm7⟩; dsimp only; replace hm7 := Lib.hid hm7))
    all_goals
      go_wp2_with fail
      go_ret
      exact ⟨rfl, (hm5'.out.trans ((((Mod.refl none_ w5).drew).trans hm6.out).trans hm7.out)).below0⟩
  · have he1 : ((e1 : Int) != 0) = true := by simp; omega
    obtain ⟨rfl, rfl⟩ := rns_err hx he
    replace hx := Lib.hid hx
    go_wp2_with fail
    refine (left_ok _ _ _ _ _ hR3.out).mono ?_
    rintro e w4 ⟨rfl, rfl⟩
    dsimp only
    go_wp2_with fail
    refine (done_ok _ g B _ _ hR3.out).mono ?_
    rintro e w5 ⟨rfl, hm5⟩
    have : dn [] e1 = e1 := by simp [dn, he]
    rw [this]
    dsimp only
    clear this
    replace hm5 := Lib.hid hm5
    go_wp2_with fail
    go_ret
    exact ⟨rfl, (hm3'.out.only_new hm5.out hgw).below0⟩
end Go.Proofs.Ytnjgcdijpkbloaa
