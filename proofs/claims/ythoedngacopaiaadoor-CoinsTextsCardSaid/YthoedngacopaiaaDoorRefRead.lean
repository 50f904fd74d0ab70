/-
  The reference's Read: by writing again. No condition.
-/
import Derived.Test.YthoedngacopaiaaDoorRefText
namespace Go.Proofs.YthoedngacopaiaaDoor
set_option linter.unusedVariables false
open Go.RowKit
def dstep (n : Nat) (c : UInt8) : Nat := if 48 ≤ c.toNat ∧ c.toNat ≤ 57 then (10 * n + (c.toNat - 48)) % 18446744073709551616 else n
def dn (l : List UInt8) (n : Nat) : Nat := l.foldl dstep n
theorem dstep_lt {n : Nat} (c : UInt8) (h : n < 18446744073709551616) : dstep n c < 18446744073709551616 := by unfold dstep; split <;> omega
theorem dn_lt : ∀ (l : List UInt8) (n : Nat), n < 18446744073709551616 → dn l n < 18446744073709551616
  | [], _, h => h
  | c :: l, _, h => dn_lt l _ (dstep_lt c h)
theorem dn_app (a b : List UInt8) (n : Nat) : dn (a ++ b) n = dn b (dn a n) := by unfold dn; rw [List.foldl_append]
theorem pstep_dstep {n k : Nat} {c : UInt8} (h : pstep n c = some k) : dstep n c = k ∧ k < 18446744073709551616 := by
  unfold pstep at h
  split at h
  · cases h
  · have e : 10 * n + (c.toNat - 48) = k := by injection h
    unfold dstep
    rw [if_pos (by omega)]; omega
theorem parse_dn : ∀ (l : List UInt8) (n r : Nat), parseF l n = some r → dn l n = r
  | [], n, r, h => by simpa [parseF, dn] using h
  | c :: l, n, r, h => by
    simp only [parseF] at h
    split at h
    · cases h
    · next m hm =>
      have := pstep_dstep hm
      show dn l (dstep n c) = r
      rw [this.1]; exact parse_dn l m r h
theorem dn_dotted (d n : Nat) (P : List UInt8) : dn (dotted d P) n = dn P n := by
  unfold dotted
  split
  · rw [dn_app]
    have h46 : ∀ m, dstep m 46 = m := fun m => by unfold dstep; rw [if_neg (by decide)]
    have : ∀ (l : List UInt8) m, dn (46 :: l) m = dn l m := fun l m => by show dn l (dstep m 46) = _; rw [h46]
    rw [this, ← dn_app, List.take_append_drop]
  · rfl
theorem dn_txtC {a : Int} {d : Nat} (ha : I64 a) : dn (txtC a d) 0 = mag a := by
  have hm := mag_le ha.1 ha.2
  have h : dn (txtN (mag a) d) 0 = mag a := by
    unfold txtN
    rw [dn_dotted]
    exact parse_dn _ _ _ (parse_pad d (mag a) (by omega))
  unfold txtC
  split
  · show dn _ (dstep 0 45) = _
    rw [show dstep 0 45 = 0 by unfold dstep; rw [if_neg (by decide)]]; exact h
  · exact h
theorem txtC_le22 {a : Int} {d : Nat} (ha : I64 a) (hd : d ≤ 6) : (txtC a d).length ≤ 22 := by
  have hm := mag_le ha.1 ha.2
  have h1 : (Lib.decDigits (mag a)).length ≤ 20 := by rw [Lib.decDigits_length]; exact Lib.nDigits_le20 _ (by omega)
  have h2 : (padD d (Lib.decDigits (mag a))).length ≤ 20 := by unfold padD; rw [List.length_append, List.length_replicate]; omega
  have h3 : (txtN (mag a) d).length ≤ 21 := by
    unfold txtN dotted
    split
    · rw [List.length_append, List.length_cons, List.length_take, List.length_drop]; omega
    · omega
  unfold txtC; split
  · rw [List.length_cons]; omega
  · omega
theorem ex_eq {P : Int → Prop} {E : Int} (h : ∀ a, a = E → P a) : ∃ a, E = a ∧ P a := ⟨E, rfl, h E rfl⟩
theorem readBack (s : List UInt8) (D : Nat) (hD : D ≤ 6) : (22 < s.length → ReadOk s D (0, 3)) ∧ ∀ a, a = (if Lib.hasPrefix s [45] then wrap64 (-wrap64 (dn s 0 : Int)) else wrap64 (dn s 0 : Int)) → I64 a ∧ (txtC a D = s → ReadOk s D (a, 0)) ∧ (txtC a D ≠ s → ReadOk s D (0, 3)) := by
  refine ⟨fun h => .inr ⟨fun a ha he => ?_, rfl⟩, fun a hae => ?_⟩
  · have := txtC_le22 (d := D) ha hD
    rw [he] at this; omega
  · have ha : I64 a := by rw [hae]; split <;> (unfold I64 wrap64; omega)
    refine ⟨ha, fun he => .inl ⟨a, ha, he, rfl⟩, fun he => .inr ⟨fun b hb hbe => he ?_, rfl⟩⟩
    have r1 := (read_of (d := D) hb).1
    have r2 := dn_txtC (d := D) hb
    rw [hbe] at r1 r2
    have hb1 := hb.1; have hb2 := hb.2
    have : a = b := by
      rw [hae, r1, r2]
      unfold mag wrap64
      by_cases h : b < 0
      · rw [decide_eq_true h, if_pos rfl]; omega
      · rw [decide_eq_false h, if_neg (by decide)]; omega
    rw [this]; exact hbe
set_option maxRecDepth 100000 in
set_option maxHeartbeats 2000000 in
set_option linter.unusedSimpArgs false in
theorem rread_ok (w : World) (s : List UInt8) (digits : Int) (hs : s.length ≤ 1000) :
    Calls Tryd.prog 13 #[.string (txt s), .int .i64 digits] w (RdPost s (clampD digits) w) := by
  have hD : clampD digits ≤ 6 := by unfold clampD; omega
  obtain ⟨hlong, hyes⟩ := readBack s (clampD digits) hD
  have hz := txt_size_ s
  replace hlong := Lib.hid hlong
  replace hyes := Lib.hid hyes
  by_cases h22 : 22 < s.length
  · have hr := hlong.out h22
    replace hr := Lib.hid hr
    go_enter Tryd.func13, Tryd.ntmps13
    go_wp2_with fail
    go_ret2
    exact ⟨(0, 3), hr.out, rfl, Mod.refl _ _⟩
  · have hdn : (∃ h : 0 < s.length, ((txt s)[0]'(by rw [hz]; exact h)).toNat = 45) ∧ Lib.hasPrefix s [45] = true ∨ (∀ h : 0 < s.length, ((txt s)[0]'(by rw [hz]; exact h)).toNat ≠ 45) ∧ Lib.hasPrefix s [45] = false := by
      cases s with
      | nil => exact .inr ⟨fun h => by simp at h, rfl⟩
      | cons c t =>
        by_cases hc : c = 45
        · subst hc; exact .inl ⟨⟨by simp, rfl⟩, by simp [Lib.hasPrefix, List.isPrefixOf]⟩
        · refine .inr ⟨fun _ h => hc ?_, ?_⟩
          · exact UInt8.toNat_inj.1 h
          · simp [Lib.hasPrefix, List.isPrefixOf]; exact fun h => hc h.symm
    have hstep : ∀ (j : Nat) (hj : j < s.length), ∃ c : Nat, ((txt s)[j]'(by rw [hz]; exact hj)).toNat = c ∧ c < 256 ∧ dn (s.take (j + 1)) 0 = (if 48 ≤ c ∧ c ≤ 57 then (10 * dn (s.take j) 0 + (c - 48)) % 18446744073709551616 else dn (s.take j) 0) := by
      intro j hj
      refine ⟨_, rfl, UInt8.toNat_lt _, ?_⟩
      rw [List.take_succ_eq_append_getElem hj, dn_app]; rfl
    have hlt := fun j => dn_lt (s.take j) 0 (by omega)
    have hend : ∀ j, j = s.length → dn (s.take j) 0 = dn s 0 := by rintro j rfl; rw [List.take_length]
    replace hstep := Lib.hid hstep
    replace hlt := Lib.hid hlt
    replace hend := Lib.hid hend
    obtain ⟨down, hdw⟩ : ∃ b, b = Lib.hasPrefix s [45] := ⟨_, rfl⟩
    have hfst : (∃ h : 0 < s.length, ((txt s)[0]'(by rw [hz]; exact h)).toNat = 45 ∧ down = true) ∨ (∃ h : 0 < s.length, ∃ k, ((txt s)[0]'(by rw [hz]; exact h)).toNat = k ∧ k ≠ 45 ∧ down = false) ∨ (s.length = 0 ∧ down = false) := by
      rcases hdn with ⟨⟨h0, h1⟩, h2⟩ | ⟨h1, h2⟩
      · exact .inl ⟨h0, h1, hdw.trans h2⟩
      · by_cases h0 : 0 < s.length
        · exact .inr (.inl ⟨h0, _, rfl, h1 h0, hdw.trans h2⟩)
        · exact .inr (.inr ⟨by omega, hdw.trans h2⟩)
    clear hdn
    rw [← hdw] at hyes
    replace hdw := Lib.hid hdw
    rcases hfst with ⟨h0, hk, rfl⟩ | ⟨h0, k, hk, hk45, rfl⟩ | ⟨h0, rfl⟩
    all_goals
      go_enter Tryd.func13, Tryd.ntmps13
      go_wp2_with fail
      go_loop [6, 8] (fun nv x => ∃ j n : Nat, x = .int .i64 j ∧ j ≤ s.length ∧ nv = .int .u64 (n : Int) ∧ n = dn (s.take j) 0) (fun _ x => s.length - (intOf x).toNat)
      case atStart => exact ⟨0, 0, rfl, by omega, rfl, by simp [dn]⟩
      case round =>
        obtain ⟨j, n, rfl, hj, rfl, hn⟩ := hrel
        have hnb := hlt.out j
        rw [← hn] at hnb
        by_cases hjl : j < s.length
        · obtain ⟨c, hc, hc256, hnx⟩ := hstep.out j hjl
          rw [← hn] at hnx
          replace hn := Lib.hid hn
          by_cases hdig : 48 ≤ c ∧ c ≤ 57
          · obtain ⟨x, rfl⟩ : ∃ x, c = 48 + x := ⟨c - 48, by omega⟩
            have hx9 : x ≤ 9 := by omega
            obtain ⟨m, hm⟩ : ∃ m, m = (10 * n + x) % 18446744073709551616 := ⟨_, rfl⟩
            have hm2 : IntKind.u64.wrap (10 * (n : Int) + (x : Int)) = (m : Int) := by rw [IntKind.wrap_u64]; omega
            rw [if_pos hdig, show 48 + x - 48 = x by omega, ← hm] at hnx
            replace hnx := Lib.hid hnx
            replace hm := Lib.hid hm
            go_wp2_with fail
            all_goals
              refine ⟨⟨j + 1, m, by go_num, by omega, by have := hm.out; congr 1; rw [IntKind.wrap_u64, IntKind.wrap_u64]; omega, hnx.out.symm⟩, ?_⟩
              simp [intOf]; omega
          · rw [if_neg hdig] at hnx
            replace hnx := Lib.hid hnx
            by_cases h48 : 48 ≤ c
            · have h57 : 57 < c := by omega
              go_wp2_with fail
              all_goals
                refine ⟨⟨j + 1, n, by go_num, by omega, rfl, hnx.out.symm⟩, ?_⟩
                simp [intOf]; omega
            · go_wp2_with fail
              all_goals
                refine ⟨⟨j + 1, n, by go_num, by omega, rfl, hnx.out.symm⟩, ?_⟩
                simp [intOf]; omega
        · have hds := hend.out j (by omega)
          rw [← hds, ← hn] at hyes
          have hq := hyes.out
          simp only [Bool.false_eq_true, if_false, if_true, reduceIte] at hq
          obtain ⟨a, hae', hI, hy, hnn⟩ := ex_eq hq
          clear hq
          have htx := fun W => rtext_ok W a digits hI
          obtain ⟨X, hX⟩ : ∃ X, X = txtC a (clampD digits) := ⟨_, rfl⟩
          rw [← hX] at hy hnn htx
          clear hI
          clear hds
          replace hn := Lib.hid hn
          replace hnb := Lib.hid hnb
          replace hy := Lib.hid hy
          replace hnn := Lib.hid hnn
          replace htx := Lib.hid htx
          replace hX := Lib.hid hX
          go_wp2_with fail
          refine (htx.out _).mono ?_
          rintro e w4 ⟨rfl, hm4⟩
          dsimp only
          clear hae'
          replace hm4 := Lib.hid hm4
          by_cases he : X = s
          · have hr := hy.out he
            subst he
            replace hr := Lib.hid hr
            go_wp2_with fail
            go_ret2
            exact ⟨_, hr.out, rfl, hm4.out⟩
          · have hr := hnn.out he
            have hn2 : (X == s) = false := by simpa using he
            replace hr := Lib.hid hr
            replace he := Lib.hid he
            go_wp2_with fail
            go_ret2
            exact ⟨_, hr.out, rfl, hm4.out⟩
end Go.Proofs.YthoedngacopaiaaDoor
