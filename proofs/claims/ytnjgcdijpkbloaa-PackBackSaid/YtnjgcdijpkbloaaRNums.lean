/-
  The contract of pack.Reader.Nums. No condition.
-/
import Derived.Test.YtnjgcdijpkbloaaRRange
namespace Go.Proofs.Ytnjgcdijpkbloaa
open Go.RowKit
/-- The next k numbers, behind some. -/
def rnl : Nat → List Int → List UInt8 → List Int × Nat × List UInt8
  | 0, pre, l => (pre, 0, l)
  | k + 1, pre, l => if (rn l 0).2.1 ≠ 0 then ([], (rn l 0).2) else rnl k (pre ++ [(rn l 0).1]) (rn l 0).2.2
/-- What Nums tells. -/
def rns (most : Int) (l : List UInt8) (e : Nat) : List Int × Nat × List UInt8 :=
  if (rg 0 most l e).2.1 ≠ 0 then ([], (rg 0 most l e).2) else rnl (rg 0 most l e).1.toNat [] (rg 0 most l e).2.2
def LPost (w : World) (g B : Nat) (r : List Int × Nat × List UInt8) (en : Ending) (w' : World) : Prop :=
  ∃ A n c, en = .returned (.tuple #[.slice A n c, .int .i64 (r.2.1 : Int)]) ∧ OwI w' A n c r.1 ∧ Fresh w A ∧ Rdr w' g B r.2.2 r.2.1 ∧ Mod (only g) w w'
set_option maxRecDepth 100000 in
theorem rnums_nil (w : World) (most : Int) : Calls Try.prog 10 #[.pointer none, .int .i64 most] w fun en w' => en = .returned (.tuple #[.slice none 0 0, .int .i64 1]) ∧ w = w' := by
  go_enter Try.func10, Try.ntmps10
  go_wp2_with fail
  refine (range_nil w _ _).mono ?_
  rintro en w1 ⟨rfl, rfl⟩
  go_wp2_with fail
  go_ret2
  exact ⟨rfl, rfl⟩
theorem RPost.zero {w : World} {g B : Nat} {v : Int} {r : List UInt8} {en : Ending} {w' : World} (h : RPost w g B (v, 0, r) en w') : en = .returned (.tuple #[.int .i64 v, .int .i64 0]) ∧ Rdr w' g B r 0 ∧ Mod (only g) w w' := h
def NsRel (w : World) (g B k : Nat) (l0 : List UInt8) (i : Nat) (v : Value) (wr : World) : Prop :=
  ∃ A t c pre l, v = .slice A t c ∧ OwI wr A t c pre ∧ Fresh w A ∧ Mod (only g) w wr ∧ Rdr wr g B l 0 ∧ rnl (k - i) pre l = rnl k [] l0 ∧ t = i
theorem Fresh.not_only {w : World} {A : Option Addr} (h : Fresh w A) {g : Nat} (hg : g < w.heap.size) : ∀ k, fp A k → ¬ only g k := by
  rintro k ⟨a, ha, rfl⟩ hk
  have := h a ha
  unfold only at hk
  omega
theorem Fresh.not_fp {w : World} {A : Option Addr} (h : Fresh w A) {g : Nat} (hg : g < w.heap.size) : ¬ fp A g := by
  rintro ⟨a, ha, rfl⟩
  have := h a ha
  omega
set_option maxRecDepth 100000 in
set_option maxHeartbeats 1000000 in
theorem rnums_ok (w : World) (g B e : Nat) (l : List UInt8) (most : Int) (h : Rdr w g B l e) (hBl : B < w.heap.size) (hmost : most ≤ 1000000000000) : Calls Try.prog 10 #[.pointer (some ⟨g, 0, none⟩), .int .i64 most] w (LPost w g B (rns most l e)) := by
  have hgl := h.lt
  obtain ⟨v, e1, r, hrn⟩ : ∃ v e1 r, rg 0 most l e = (v, e1, r) := ⟨_, _, _, rfl⟩
  have hc := range_ok w g B e l 0 most h
  have hr : rns most l e = if e1 ≠ 0 then ([], e1, r) else rnl v.toNat [] r := by unfold rns; rw [hrn]
  rw [hrn] at hc
  by_cases he : e1 = 0
  · subst he
    have hv := rg_bound hrn
    obtain ⟨k, rfl⟩ : ∃ k : Nat, v = (k : Int) := ⟨v.toNat, by omega⟩
    have hk : k ≤ 1000000000000 := by omega
    rw [if_neg (by omega), Int.toNat_natCast] at hr
    clear hv
    replace hc := Lib.hid hc
    replace hr := Lib.hid hr
    replace hrn := Lib.hid hrn
    replace hgl := Lib.hid hgl
    replace hBl := Lib.hid hBl
    go_enter Try.func10, Try.ntmps10
    go_wp2_with fail
    refine hc.out.mono ?_
    rintro en w1 hpost
    obtain ⟨rfl, hR, hm⟩ := hpost.zero
    dsimp only
    replace hR := Lib.hid hR
    replace hm := Lib.hid hm
    go_wp2_with fail
    go_loopw [8, 21] (fun v x wr => ∃ i : Nat, x = .int .i64 i ∧ i ≤ k ∧ NsRel w g B k r i v wr) (fun _ x _ => k - (intOf x).toNat)
    case atStart => exact ⟨0, rfl, by omega, none, 0, 0, [], r, rfl, Ow.nil _ _ _, (fun _ h => by cases h), hm.out, hR.out, rfl, rfl⟩
    case round =>
      obtain ⟨i, rfl, hi, A, t, c, pre, li, rfl, ho, hf, hmr, hRr, hnl, rfl⟩ := hrel
      by_cases hlt : t < k
      · obtain ⟨x, e2, l2, hx⟩ : ∃ x e2 l2, rn li 0 = (x, e2, l2) := ⟨_, _, _, rfl⟩
        have hcn := rnum_ok wr g B 0 li hRr
        have hst : rnl (k - t) pre li = if e2 ≠ 0 then ([], e2, l2) else rnl (k - (t + 1)) (pre ++ [x]) l2 := by
          rw [show k - t = (k - (t + 1)) + 1 by omega, rnl, hx]
        rw [hx] at hcn
        by_cases he2 : e2 = 0
        · subst he2
          rw [if_neg (by omega), hnl] at hst
          replace hnl := Lib.hid hnl
          replace hst := Lib.hid hst
          replace hx := Lib.hid hx
          replace hcn := Lib.hid hcn
          replace ho := Lib.hid ho
          replace hf := Lib.hid hf
          replace hmr := Lib.hid hmr
          replace hRr := Lib.hid hRr
          go_wp2_with fail
          refine hcn.out.mono ?_
          rintro en w2 hpost
          obtain ⟨rfl, hR2, hm2⟩ := hpost.zero
          dsimp only
          have ho2 := Ow.mod ho.out hm2 (hf.out.not_only hgl.out)
          have hm3 := hmr.out.trans hm2
          replace hR2 := Lib.hid hR2
          replace hm2 := Lib.hid hm2
          replace ho2 := Lib.hid ho2
          replace hm3 := Lib.hid hm3
          go_wp2_with (at_builtin; go_loud (refine app64 rfl (.tmp 31) (.tmp 33) rfl rfl (ho2.out.mod0 ((Mod.refl none_ _).alloc _)) rfl (rdi_one _ _ _) (by omega) ?_; intro A' c' w' ho' hm' hA'; replace ho' := Lib.hid ho'; replace hm' := Lib.hid hm'; replace hA' := Lib.hid hA'))
          go_roundw
          case rel =>
            refine ⟨t + 1, by go_num, by omega, A', t + 1, c', _, l2, rfl, ho'.out, Fresh.app hf.out (hm3.out.alloc _).size hA'.out, (hm3.out.alloc _).then hm'.out ?_, (hR2.out.mod0 ((Mod.refl none_ _).alloc _)).mod hm'.out (hf.out.not_fp hgl.out) (hf.out.not_fp hBl.out), hst.out.symm, rfl⟩
            rintro j hj ⟨a, ha, rfl⟩
            have := hf.out a ha
            omega
          case measure => simp [intOf]; omega
        · have hee : ((e2 : Int) != 0) = true := by simp; omega
          rw [if_pos he2, hnl] at hst
          replace hnl := Lib.hid hnl
          replace hst := Lib.hid hst
          replace hx := Lib.hid hx
          replace hcn := Lib.hid hcn
          replace ho := Lib.hid ho
          replace hf := Lib.hid hf
          replace hmr := Lib.hid hmr
          replace hRr := Lib.hid hRr
          go_wp2_with fail
          refine hcn.out.mono ?_
          rintro en w2 ⟨rfl, hR2, hm2⟩
          dsimp only at hR2 ⊢
          replace hR2 := Lib.hid hR2
          replace hm2 := Lib.hid hm2
          go_wp2_with fail
          go_ret2
          refine ⟨none, 0, 0, ?_, ?_, (fun _ h => by cases h), ?_, hmr.out.trans hm2.out⟩
          · rw [hr.out, hst.out]; rfl
          · rw [hr.out, hst.out]; exact Ow.nil _ _ _
          · rw [hr.out, hst.out]; exact hR2.out
      · have hst : rnl (k - t) pre li = (pre, 0, li) := by rw [show k - t = 0 by omega, rnl]
        rw [hnl] at hst
        replace hnl := Lib.hid hnl
        replace hst := Lib.hid hst
        replace ho := Lib.hid ho
        replace hf := Lib.hid hf
        replace hmr := Lib.hid hmr
        replace hRr := Lib.hid hRr
        go_wp2_with fail
        go_ret2
        refine ⟨A, t, c, ?_, ?_, hf.out, ?_, hmr.out⟩
        · rw [hr.out, hst.out]; rfl
        · rw [hr.out, hst.out]; exact ho.out
        · rw [hr.out, hst.out]; exact hRr.out
  · have he1 : ((e1 : Int) != 0) = true := by simp; omega
    rw [if_pos he] at hr
    replace hc := Lib.hid hc
    replace hr := Lib.hid hr
    replace hrn := Lib.hid hrn
    go_enter Try.func10, Try.ntmps10
    go_wp2_with fail
    refine hc.out.mono ?_
    rintro en w1 ⟨rfl, hR, hm⟩
    dsimp only at hR ⊢
    replace hR := Lib.hid hR
    replace hm := Lib.hid hm
    go_wp2_with fail
    go_ret2
    refine ⟨none, 0, 0, ?_, ?_, (fun _ h => by cases h), ?_, hm.out⟩
    · rw [hr.out]; rfl
    · rw [hr.out]; exact Ow.nil _ _ _
    · rw [hr.out]; exact hR.out
end Go.Proofs.Ytnjgcdijpkbloaa
