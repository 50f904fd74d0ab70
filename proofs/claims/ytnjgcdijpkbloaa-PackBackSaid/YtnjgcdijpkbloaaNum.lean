/-
  The contract of pack.Num. No condition.
-/
import Derived.Test.YtnjgcdijpkbloaaFold
import Derived.Test.YtnjgcdijpkbloaaApp
import Derived.Deep.RegionLaw
namespace Go.Proofs.Ytnjgcdijpkbloaa
open Go.RowKit
theorem or128 : ∀ x : Nat, x < 256 → x ||| 128 = x % 128 + 128 := by decide +kernel
theorem bor8 (q : Nat) : bits .or .u8 ((q : Int) % 256) 128 = ((q % 128 + 128 : Nat) : Int) := by
  have e0 : (q : Int) % 256 = ((q % 256 : Nat) : Int) := by omega
  have e1 := or128 (q % 256) (by omega)
  rw [e0]
  show IntKind.u8.wrap ((BitVec.ofInt 8 ((q % 256 : Nat) : Int) ||| BitVec.ofInt 8 ((128 : Nat) : Int)).toNat : Int) = _
  rw [BitVec.toNat_or, ofInt_nat 8 (q % 256) (by omega), ofInt_nat 8 128 (by omega), e1, IntKind.wrap_u8]
  omega
theorem vbF_len : ∀ (f m : Nat), (vbF f m).length ≤ f := by
  intro f
  induction f with
  | zero => intro m; exact Nat.le_refl _
  | succ f ih => intro m; simp only [vbF]; split; simp; simp only [List.length_cons]; have := ih (m / 128); omega
theorem vb_len (m : Nat) : (vb m).length ≤ 10 := vbF_len 10 m
theorem vb_pos (m : Nat) : 0 < (vb m).length := by unfold vb vbF; split <;> simp
def NumOk (t q : Nat) : Prop := q < 2 ^ (64 - 7 * t)
def NumRel (w : World) (M : Nat) (q : Nat) (v : Value) (wr : World) : Prop :=
  ∃ A t c pre, v = .slice A t c ∧ OwB wr 5 A t c pre ∧ Fresh w A ∧ Mod none_ w wr ∧ pre ++ vbF (10 - t) q = vb M ∧ NumOk t q ∧ t ≤ 9
theorem num_step {t q : Nat} (ht : t ≤ 9) (hq : NumOk t q) (h : 128 ≤ q) : t ≤ 8 ∧ NumOk (t + 1) (q / 128) ∧ vbF (10 - t) q = by_ (q % 128 + 128) :: vbF (10 - (t + 1)) (q / 128) := by
  unfold NumOk at hq ⊢
  have h8 : t ≤ 8 := by
    rcases Nat.lt_or_ge t 9 with h1 | h1
    · omega
    · have : t = 9 := by omega
      subst this
      simp at hq; omega
  have e : 64 - 7 * t = 64 - 7 * (t + 1) + 7 := by omega
  rw [e, Nat.pow_add] at hq
  refine ⟨h8, Nat.div_lt_of_lt_mul (by rw [Nat.mul_comm]; exact hq), ?_⟩
  rw [show 10 - t = (10 - (t + 1)) + 1 by omega]
  simp only [vbF]
  rw [if_neg (by omega)]

theorem by_hi (q : Nat) : ((q : Int) % 128 + 128) = ((by_ (q % 128 + 128)).toNat : Int) := by rw [by_toNat]; omega
theorem by_lo {q : Nat} (h : q < 128) : (q : Int) = ((by_ q).toNat : Int) := by rw [by_toNat]; omega
theorem vbF_last {f q : Nat} (hf : 0 < f) (h : q < 128) : vbF f q = [by_ q] := by
  cases f with
  | zero => omega
  | succ f => simp only [vbF]; rw [if_pos h]
def NumPost (w : World) (n : Int) (e : Ending) (w' : World) : Prop := ∃ A k c, e = .returned (.slice A k c) ∧ OwB w' 5 A k c (vb (zig n)) ∧ Fresh w A ∧ Mod none_ w w' ∧ k ≤ 10
set_option maxRecDepth 100000 in
set_option maxHeartbeats 1000000 in
theorem num_ok (w : World) (n : Int) (h1 : -9223372036854775808 ≤ n) (h2 : n ≤ 9223372036854775807) : Calls Try.prog 19 #[.int .i64 n] w (NumPost w n) := by
  have hz := zig_lt h1 h2
  go_enter Try.func19, Try.ntmps19
  go_wp2_with fail
  refine (fold_ok _ n h1 h2).mono ?_
  rintro e w1 ⟨rfl, rfl⟩
  obtain ⟨M, hM⟩ : ∃ M, M = zig n := ⟨_, rfl⟩
  rw [← hM] at hz ⊢
  replace hM := Lib.hid hM
  go_wp2_with fail
  go_loopw [3, 4] (fun v x wr => ∃ q : Nat, x = .int .u64 q ∧ NumRel w M q v wr) (fun _ x _ => (intOf x).toNat)
  case atStart => exact ⟨M, rfl, none, 0, 0, [], rfl, Ow.nil _ _ _, (fun _ h => by cases h), Mod.refl _ w, rfl, by unfold NumOk; simpa using hz, by omega⟩
  case round =>
    obtain ⟨q, rfl, A, t, c, pre, rfl, ho, hf, hm, hpre, hq, ht⟩ := hrel
    have hb := bor8 q
    have hq64 : q < 18446744073709551616 := Nat.lt_of_lt_of_le hq (Nat.pow_le_pow_right (show 0 < 2 by omega) (show 64 - 7 * t ≤ 64 by omega))
    replace hq64 := Lib.hid hq64
    replace hz := Lib.hid hz
    replace ho := Lib.hid ho
    replace hf := Lib.hid hf
    replace hm := Lib.hid hm
    replace hpre := Lib.hid hpre
    by_cases hl : 128 ≤ q
    · obtain ⟨g1, g2, g3⟩ := num_step ht hq hl
      replace hq := Lib.hid hq
      replace g2 := Lib.hid g2
      replace g3 := Lib.hid g3
      go_wp2_with (at_builtin; refine app8 rfl (.tmp 11) (.tmp 15) rfl rfl (ho.out.mod0 ((Mod.refl none_ _).alloc _)) rfl (rdb_one _ _ (by_hi q)) (by omega) ?_; intro A' c' w' ho' hm' hA'; replace ho' := Lib.hid ho'; replace hm' := Lib.hid hm'; replace hA' := Lib.hid hA')
      go_roundw
      case rel =>
        refine ⟨q / 128, rfl, A', t + 1, c', pre ++ [by_ (q % 128 + 128)], rfl, ho'.out, Fresh.app hf.out (hm.out.alloc _).size hA'.out, (hm.out.alloc _).app hf.out hm'.out, ?_, g2.out, by omega⟩
        rw [← hpre.out, g3.out, List.append_assoc]; rfl
      case measure => simp [intOf]; omega
    · have hv : Hid (pre ++ [by_ q] = vb M) := by
        have := hpre.out
        rw [vbF_last (by omega) (by omega)] at this
        exact Lib.hid this
      go_wp2_with (at_builtin; go_loud (refine app8 rfl (.tmp 17) (.tmp 20) rfl rfl (ho.out.mod0 ((Mod.refl none_ _).alloc _)) rfl (rdb_one _ _ (by_lo (by omega))) (by omega) ?_; intro A' c' w' ho' hm' hA'; replace ho' := Lib.hid ho'; replace hm' := Lib.hid hm'; replace hA' := Lib.hid hA'))
      go_ret
      have h9 := ho'.out
      rw [hv.out, hM.out] at h9
      exact ⟨A', t + 1, c', rfl, h9, Fresh.app hf.out (hm.out.alloc _).size hA'.out, (hm.out.alloc _).app hf.out hm'.out, by omega⟩
end Go.Proofs.Ytnjgcdijpkbloaa
