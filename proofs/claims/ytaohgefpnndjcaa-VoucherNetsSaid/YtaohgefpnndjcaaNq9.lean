import Derived.Test.YtaohgefpnndjcaaNq8
import Derived.Test.YtaohgefpnndjcaaNq5
import Derived.Test.YtaohgefpnndjcaaNq7
import Derived.Test.YtaohgefpnndjcaaNq2
import Derived.Laws.StructEq
import Derived.Test.YtaohgefpnndjcaaNq6
import Derived.BigQuiet
/-
  What every law of chapter 7 begins with.
-/
namespace Go.Proofs.Ytaohgefpnndjcaa
set_option linter.unusedVariables false
open Go.RowKit
def v1_ : List Ac := [⟨[97], 0, 0, 9⟩]
def v2_ : List Ac := [⟨[97], 0, 0, 9⟩, ⟨[98], 0, 0, 0⟩]
def v3_ : List Ac := [⟨[97], 0, 0, 9⟩, ⟨[98], 0, 0, 0⟩, ⟨[99], 0, 0, 0⟩]
def v4_ : List Ac := [⟨[97], -5, 0, 9⟩, ⟨[98], 3, 0, 0⟩, ⟨[99], 2, 0, 0⟩]
def g3_ : List Lg := [⟨[97], -5⟩, ⟨[98], 3⟩, ⟨[99], 2⟩]
def g2_ : List Lg := [⟨[97], -5⟩, ⟨[98], 4⟩]
theorem vl1 : openR [] [97] 9 = (v1_, 0) := by decide +kernel
theorem vl2 : openR v1_ [98] 0 = (v2_, 0) := by decide +kernel
theorem vl3 : openR v2_ [99] 0 = (v3_, 0) := by decide +kernel
theorem vl4 : makeR v3_ g3_ = (v4_, 0) := by decide +kernel
theorem vl5 : checkR v4_ g2_ = 8 := by decide +kernel
theorem vok (C : List Ac) (h : C = v1_ ∨ C = v2_ ∨ C = v3_ ∨ C = v4_) : OkC C := by
  refine ⟨fun a ha => ?_, ?_⟩
  · rcases h with rfl | rfl | rfl | rfl
    all_goals
      simp only [v1_, v2_, v3_, v4_, List.mem_cons, List.not_mem_nil, or_false] at ha
    · subst ha; exact ⟨by unfold WfA I64; dsimp only; omega, by decide⟩
    · rcases ha with rfl | rfl
      all_goals exact ⟨by unfold WfA I64; dsimp only; omega, by decide⟩
    · rcases ha with rfl | rfl | rfl
      all_goals exact ⟨by unfold WfA I64; dsimp only; omega, by decide⟩
    · rcases ha with rfl | rfl | rfl
      all_goals exact ⟨by unfold WfA I64; dsimp only; omega, by decide⟩
  · rcases h with rfl | rfl | rfl | rfl <;> decide
theorem gok (ls : List Lg) (h : ls = g3_ ∨ ls = g2_) : ∀ l ∈ ls, LgOk l := by
  intro l hl
  rcases h with rfl | rfl
  · simp only [g3_, List.mem_cons, List.not_mem_nil, or_false] at hl
    rcases hl with rfl | rfl | rfl
    all_goals exact ⟨by decide, by unfold I64; dsimp only; omega⟩
  · simp only [g2_, List.mem_cons, List.not_mem_nil, or_false] at hl
    rcases hl with rfl | rfl
    all_goals exact ⟨by decide, by unfold I64; dsimp only; omega⟩
theorem rdl_g3 (w : World) (e : TypeId) : RdL (w.alloc (.cells #[.string ⟨#[97]⟩, .int .i64 (-5), .string ⟨#[98]⟩, .int .i64 3, .string ⟨#[99]⟩, .int .i64 2] e)) (some ⟨w.heap.size, 0, none⟩) 3 g3_ := rdn w e 2 3 w.heap.size #[.string ⟨#[97]⟩, .int .i64 (-5), .string ⟨#[98]⟩, .int .i64 3, .string ⟨#[99]⟩, .int .i64 2] (0, 0) rfl rfl
theorem rdl_g2 (w : World) (e : TypeId) : RdL (w.alloc (.cells #[.string ⟨#[97]⟩, .int .i64 (-5), .string ⟨#[98]⟩, .int .i64 4] e)) (some ⟨w.heap.size, 0, none⟩) 2 g2_ := rdn w e 2 2 w.heap.size #[.string ⟨#[97]⟩, .int .i64 (-5), .string ⟨#[98]⟩, .int .i64 4] (0, 0) rfl rfl
set_option maxRecDepth 100000 in
set_option maxHeartbeats 2000000 in
theorem lives_ok (w : World) : Calls Try.prog 9 #[] w fun e w' => e = .returned (.bool true) ∧ Mod none_ w w' := by
  have k0 := Lib.hid (new_ok w)
  have k1 := Lib.hid (fun W p b (h : ChAt W p b []) => by have := open_ok W p b [] ⟨#[97]⟩ 9 h (by decide) OkC.nil; rw [show (⟨#[97]⟩ : ByteArray).data.toList = [97] from rfl, vl1] at this; exact this)
  have k2 := Lib.hid (fun W p b (h : ChAt W p b v1_) => by have := open_ok W p b v1_ ⟨#[98]⟩ 0 h (by decide) (vok _ (.inl rfl)); rw [show (⟨#[98]⟩ : ByteArray).data.toList = [98] from rfl, vl2] at this; exact this)
  have k3 := Lib.hid (fun W p b (h : ChAt W p b v2_) => by have := open_ok W p b v2_ ⟨#[99]⟩ 0 h (by decide) (vok _ (.inr (.inl rfl))); rw [show (⟨#[99]⟩ : ByteArray).data.toList = [99] from rfl, vl3] at this; exact this)
  have k4 := Lib.hid (fun W p b A (h : ChAt W p b v3_) (hr : RdL W A 3 g3_) (hA : 0 < 3 → ∀ k, fp A k → ¬ k = b) => by have := make_ok W p b v3_ A 3 3 g3_ h (vok _ (.inr (.inr (.inl rfl)))) hr (by omega) (gok _ (.inl rfl)) hA; rw [vl4] at this; exact this)
  have k5 := Lib.hid (fun W p b A (h : ChAt W p b v4_) (hr : RdL W A 2 g2_) => by have := check_ok W p b v4_ A 2 2 g2_ h (vok _ (.inr (.inr (.inr rfl)))) hr (by omega) (gok _ (.inr rfl)); rw [vl5] at this; exact this)
  have k6 := Lib.hid (fun W p b (h : ChAt W p b v4_) => get_ok W p b v4_ ⟨#[97]⟩ h (by decide))
  rw [show getV v4_ (⟨#[97]⟩ : ByteArray).data.toList = (.agg #[.string (txt [97]), .int .i64 (-5), .int .i64 0, .int .i64 9], 0) from rfl] at k6
  go_enter Try.func9, Try.ntmps9
  go_wp2_with fail
  refine k0.out.mono ?_
  rintro e w0 ⟨p, b, rfl, hc, hm, hp, hb⟩
  dsimp only
  have hbl := hc.2.1.lt
  replace hc := Lib.hid hc
  replace hm := Lib.hid hm
  replace hp := Lib.hid hp
  replace hb := Lib.hid hb
  go_wp2_with fail
  refine (k1.out _ p b hc.out).mono ?_
  rintro e w1 ⟨rfl, hc1, hm1⟩
  dsimp only at hc1 ⊢
  have hmw1 := Lib.hid (hm.out.then hm1 (fun i hi he => by have := hb.out; have : i = b := he; omega))
  have hs1 := hm1.size
  replace hc1 := Lib.hid hc1
  replace hm1 := Lib.hid hm1
  go_wp2_with fail
  refine (k2.out _ p b hc1.out).mono ?_
  rintro e w2 ⟨rfl, hc2, hm2⟩
  dsimp only at hc2 ⊢
  have hmw2 := Lib.hid (hmw1.out.then hm2 (fun i hi he => by have := hb.out; have : i = b := he; omega))
  have hs2 := hm2.size
  replace hc2 := Lib.hid hc2
  replace hm2 := Lib.hid hm2
  go_wp2_with fail
  refine (k3.out _ p b hc2.out).mono ?_
  rintro e w3 ⟨rfl, hc3, hm3⟩
  dsimp only at hc3 ⊢
  have hmw3 := Lib.hid (hmw2.out.then hm3 (fun i hi he => by have := hb.out; have : i = b := he; omega))
  have hs3 := hm3.size
  replace hc3 := Lib.hid hc3
  replace hm3 := Lib.hid hm3
  go_wp2_with fail
  refine (k4.out _ p b (some ⟨w3.heap.size, 0, none⟩) (hc3.out.alloc _) (rdl_g3 _ _) (fun _ k hk he => by obtain ⟨a, ha, rfl⟩ := hk; injection ha with ha; subst ha; dsimp only at he; omega)).mono ?_
  rintro e w4 ⟨rfl, hc4, hm4⟩
  dsimp only at hc4 ⊢
  have hmw4 := Lib.hid ((hmw3.out.alloc (.cells #[.string ⟨#[97]⟩, .int .i64 (-5), .string ⟨#[98]⟩, .int .i64 3, .string ⟨#[99]⟩, .int .i64 2] 44)).then hm4 (fun i hi he => by have := hb.out; have : i = b := he; omega))
  replace hc4 := Lib.hid hc4
  clear hm4
  go_wp2_with fail
  refine (k5.out _ p b (some ⟨w4.heap.size, 0, none⟩) (hc4.out.alloc _) (rdl_g2 _ _)).mono ?_
  rintro e w5 ⟨rfl, hm5⟩
  dsimp only
  have hc5 := Lib.hid ((hc4.out.alloc (.cells #[.string ⟨#[97]⟩, .int .i64 (-5), .string ⟨#[98]⟩, .int .i64 4] 44)).mod0 hm5)
  have hmw5 := Lib.hid ((hmw4.out.alloc (.cells #[.string ⟨#[97]⟩, .int .i64 (-5), .string ⟨#[98]⟩, .int .i64 4] 44)).trans hm5)
  clear hm5
  go_wp2_with fail
  refine (k6.out _ p b hc5.out).mono ?_
  rintro e w6 ⟨rfl, hm6⟩
  dsimp only
  have hmw6 := Lib.hid (hmw5.out.trans hm6)
  clear hm6
  go_wp2_with fail
  go_ret
  exact ⟨rfl, hmw6.out.alloc _⟩
end Go.Proofs.Ytaohgefpnndjcaa
/-
  The reference's list of accounts: where a name stands, what a change at that place and an insertion are. Plain.
-/
namespace Go.Proofs.Ytaohgefpnndjcaa
set_option linter.unusedVariables false
open Go.RowKit
/-- where a name stands in the list -/
def StandsAt (C : List Ac) (s : List UInt8) (i : Nat) : Prop := ∃ h : i < C.length, C[i].n = s ∧ ∀ q (hq : q < i), (C[q]'(by omega)).n ≠ s
theorem stands_of {s : List UInt8} : ∀ {C : List Ac} {a : Ac}, getC C s = some a → ∃ i, StandsAt C s i ∧ C[i]? = some a
  | [], a, h => by simp [getC] at h
  | y :: l, a, h => by
    unfold getC at h
    by_cases e : y.n = s
    · rw [List.find?_cons_of_pos (by simpa using e)] at h
      injection h with h
      subst h
      exact ⟨0, ⟨by simp, e, fun q hq => absurd hq (by omega)⟩, rfl⟩
    · rw [List.find?_cons_of_neg (by simpa using e)] at h
      obtain ⟨i, ⟨hi, h1, h2⟩, h3⟩ := stands_of (C := l) h
      refine ⟨i + 1, ⟨by simp; omega, by simpa using h1, fun q hq => ?_⟩, by simpa using h3⟩
      cases q with
      | zero => exact e
      | succ q => exact h2 q (by omega)
theorem stands_none {C : List Ac} {s : List UInt8} (h : getC C s = none) : ∀ i (hi : i < C.length), C[i].n ≠ s := by
  intro i hi he
  have := List.find?_eq_none.1 h C[i] (List.getElem_mem hi)
  simp [he] at this
theorem set_at {C : List Ac} {i : Nat} {b : Ac} (hs : SortedC C) (hi : i < C.length) (hn : C[i].n = b.n) : setC C b = C.set i b := by
  apply List.ext_getElem?
  intro j
  unfold setC
  rw [List.getElem?_map, List.getElem?_set]
  by_cases hj : j < C.length
  · rw [List.getElem?_eq_getElem hj, Option.map_some]
    by_cases hij : i = j
    · subst hij
      rw [if_pos rfl, if_pos hi, if_pos (by simpa using hn)]
    · rw [if_neg hij]
      have hne : C[j].n ≠ b.n := by
        rw [← hn]
        rcases Nat.lt_or_gt_of_ne hij with h | h
        · exact (bb_ne (List.pairwise_iff_getElem.1 hs i j hi hj h)).symm
        · exact bb_ne (List.pairwise_iff_getElem.1 hs j i hj hi h)
      rw [if_neg (by simpa using hne)]
  · rw [List.getElem?_eq_none (by omega), Option.map_none]
    by_cases hij : i = j
    · omega
    · rw [if_neg hij]
theorem ins_at {a : Ac} : ∀ {C : List Ac} {k : Nat}, SortedC C → k ≤ C.length → (∀ i (hi : i < C.length), k ≤ i → bytesBefore a.n C[i].n = true) → (∀ i (hi : i < C.length), k = i + 1 → bytesBefore a.n C[i].n = false) →
    insC a C = C.take k ++ a :: C.drop k
  | [], k, _, _, _, _ => by simp [insC]
  | y :: l, 0, _, _, h1, _ => by
    have := h1 0 (by simp) (by omega)
    simp only [List.getElem_cons_zero] at this
    simp [insC, this]
  | y :: l, k + 1, hs, hk, h1, h2 => by
    obtain ⟨s1, s2⟩ := List.pairwise_cons.1 hs
    have hy : bytesBefore a.n y.n = false := by
      cases k with
      | zero => exact h2 0 (by simp) rfl
      | succ k =>
        have hkl : k < l.length := by simp at hk; omega
        have h3 := h2 (k + 1) (by simp; omega) rfl
        simp only [List.getElem_cons_succ] at h3
        cases hb : bytesBefore a.n y.n with
        | false => rfl
        | true => rw [bb_trans _ _ _ hb (s1 _ (List.getElem_mem hkl))] at h3; cases h3
    have ih := ins_at (a := a) (C := l) (k := k) s2 (by simpa using hk) (fun i hi hki => by have := h1 (i + 1) (by simpa using hi) (by omega); simpa using this) (fun i hi hki => by have := h2 (i + 1) (by simpa using hi) (by omega); simpa using this)
    rw [insC, if_neg (by simp [hy]), ih]
    simp
end Go.Proofs.Ytaohgefpnndjcaa
/-
  Two accounts held against each other.
-/
namespace Go.Proofs.Ytaohgefpnndjcaa
set_option linter.unusedVariables false
open Go.RowKit
set_option maxRecDepth 100000 in
theorem eqIn_ac (W : World) (x y : Ac) : (Op.equalIn 10000 46 (acV x) (acV y)).run Try.prog W = .ok (decide (x = y)) W := by
  unfold acV
  rw [run_equalIn_agg W 9999 46 _ _ (by kernel_rfl) (by kernel_rfl)]
  obtain ⟨fs, hfs⟩ : ∃ fs, (Try.prog.fieldsOf 46).toList = fs := ⟨_, rfl⟩
  rw [hfs]
  have e : fs = (Try.prog.fieldsOf 46).toList := hfs.symm
  simp [go_sem] at e
  clear hfs
  subst e
  obtain ⟨xn, xh, xs, xl⟩ := x
  obtain ⟨yn, yh, ys, yl⟩ := y
  by_cases h1 : xn = yn
  · subst h1
    by_cases h2 : xh = yh
    · subst h2
      by_cases h3 : xs = ys
      · subst h3
        by_cases h4 : xl = yl
        · subst h4
          simp [go_sem, part]
        · simp [go_sem, part, h4]
      · simp [go_sem, part, h3]
    · simp [go_sem, part, h2]
  · simp [go_sem, part, h1]
theorem neq_ac (W : World) (x y : Ac) : (binOp .neq 46 (acV x) (acV y)).run Try.prog W = .ok (.bool (!decide (x = y))) W := by
  have := eqIn_ac W x y
  unfold acV at *
  rw [run_neq_struct, this]; rfl
theorem eql_ac (W : World) (x y : Ac) : (binOp .eql 46 (acV x) (acV y)).run Try.prog W = .ok (.bool (decide (x = y))) W := by
  have := eqIn_ac W x y
  unfold acV at *
  rw [run_eql_struct, this]; rfl
end Go.Proofs.Ytaohgefpnndjcaa
/-
  The reference's Same, of two lists of accounts.
-/
namespace Go.Proofs.Ytaohgefpnndjcaa
set_option linter.unusedVariables false
open Go.RowKit
theorem rda_get {w : World} {A : Option Addr} {n : Nat} {C : List Ac} (h : RdA w A n C) {j : Nat} (hj : j < C.length) (hn : 0 < n) : ∃ b o, A = some ⟨b, o, none⟩ ∧
    w.cell? ⟨b, o + j*4, none⟩ = some (.string (txt C[j].n)) ∧ w.cell? ⟨b, o + j*4 + 1, none⟩ = some (.int .i64 C[j].h) ∧ w.cell? ⟨b, o + j*4 + 2, none⟩ = some (.int .i64 C[j].s) ∧ w.cell? ⟨b, o + j*4 + 3, none⟩ = some (.int .i64 C[j].l) := by
  obtain ⟨b, o, e, hc⟩ := Rd.form h hn (by omega)
  have hg := flat_get (fun a : Ac => [Value.string (txt a.n), .int .i64 a.h, .int .i64 a.s, .int .i64 a.l]) 4 (fun _ => rfl) C j C[j] (List.getElem?_eq_getElem hj)
  refine ⟨b, o, e, ?_, ?_, ?_, ?_⟩
  · exact hc (j*4) _ (hg 0 (by omega))
  · rw [Nat.add_assoc]; exact hc (j*4+1) _ (hg 1 (by omega))
  · rw [Nat.add_assoc]; exact hc (j*4+2) _ (hg 2 (by omega))
  · rw [Nat.add_assoc]; exact hc (j*4+3) _ (hg 3 (by omega))
def sameAc (C D : List Ac) : Bool := decide (C = D)
set_option maxRecDepth 100000 in
set_option maxHeartbeats 2000000 in
theorem same_ok (w : World) (A B : Option Addr) (n m c d : Nat) (C D : List Ac) (hA : RdA w A n C) (hB : RdA w B m D) (hn : n ≤ 1000) (hm : m ≤ 1000) :
    Calls Try.prog 14 #[.slice A n c, .slice B m d] w fun e w' => e = .returned (.bool (sameAc C D)) ∧ ∃ k, w' = w.drewN k := by
  have la := hA.len
  have lb := hB.len
  by_cases hnm : n = m
  · subst hnm
    replace hA := Lib.hid hA
    replace hB := Lib.hid hB
    replace la := Lib.hid la
    replace lb := Lib.hid lb
    go_enter Try.func14, Try.ntmps14
    go_wp2_with fail
    go_loopw [5] (fun x wr => ∃ j : Nat, x = .int .i64 j ∧ j ≤ n ∧ C.take j = D.take j ∧ ∃ k, wr = w.drewN k) (fun x _ => n - (intOf x).toNat)
    case atStart => exact ⟨0, rfl, by omega, rfl, 0, rfl⟩
    case round =>
      obtain ⟨j, rfl, hj, htk, k, rfl⟩ := hrel
      by_cases hlt : j < n
      · have hjC : j < C.length := by rw [la.out]; exact hlt
        have hjD : j < D.length := by rw [lb.out]; exact hlt
        obtain ⟨b, o, rfl, a1, a2, a3, a4⟩ := rda_get (w := w.drewN k) (Rd.drewN hA.out k) hjC (by omega)
        obtain ⟨b', o', rfl, b1, b2, b3, b4⟩ := rda_get (w := w.drewN k) (Rd.drewN hB.out k) hjD (by omega)
        have t1 : C.take (j+1) = C.take j ++ [C[j]] := by rw [List.take_succ_eq_append_getElem hjC]
        have t2 : D.take (j+1) = D.take j ++ [D[j]] := by rw [List.take_succ_eq_append_getElem hjD]
        generalize C[j] = x at *
        generalize D[j] = y at *
        generalize hw : w.drewN k = w1 at *
        have hne := fun W => neq_ac W x y
        unfold acV at hne
        have hdiff : C.take j = D.take j → ¬ x = y → ¬ C = D := by
          intro h1 h2 h3
          subst h3
          rw [t1] at t2
          have := List.append_cancel_left t2
          simp at this
          exact h2 this
        by_cases hxy : x = y
        · rw [decide_eq_true hxy] at hne
          replace hw := Lib.hid hw
          replace t1 := Lib.hid t1
          replace t2 := Lib.hid t2
          replace htk := Lib.hid htk
          replace hjC := Lib.hid hjC
          replace hjD := Lib.hid hjD
          replace hxy := Lib.hid hxy
          replace hdiff := Lib.hid hdiff
          go_wp2_with (go_quiet (fail))
          go_roundw
          case rel => exact ⟨j + 1, by go_num, by omega, by rw [t1.out, t2.out, htk.out, hxy.out], _, by rw [← hw.out, World.drewN_drewN]⟩
          case measure => simp [intOf]; omega
        · rw [decide_eq_false hxy] at hne
          have hno : sameAc C D = false := decide_eq_false (hdiff htk hxy)
          replace hw := Lib.hid hw
          replace t1 := Lib.hid t1
          replace t2 := Lib.hid t2
          replace htk := Lib.hid htk
          replace hjC := Lib.hid hjC
          replace hjD := Lib.hid hjD
          replace hxy := Lib.hid hxy
          replace hdiff := Lib.hid hdiff
          go_wp2_with (go_quiet (fail))
          go_ret
          exact ⟨by rw [hno]; rfl, _, by rw [← hw.out, World.drewN_drewN]⟩
      · have hjn : j = n := by omega
        subst hjn
        have heq : sameAc C D = true := by
          refine decide_eq_true ?_
          rw [List.take_of_length_le (by have := la.out; omega), List.take_of_length_le (by have := lb.out; omega)] at htk
          exact htk
        replace htk := Lib.hid htk
        go_wp2_with fail
        go_ret
        exact ⟨by rw [heq]; rfl, k, rfl⟩
  · have hno : sameAc C D = false := decide_eq_false (fun h => hnm (by rw [← la, ← lb, h]))
    have hnm2 : ((n : Int) == (m : Int)) = false := by simp; omega
    replace hA := Lib.hid hA
    replace hB := Lib.hid hB
    replace la := Lib.hid la
    replace lb := Lib.hid lb
    replace hnm := Lib.hid hnm
    go_enter Try.func14, Try.ntmps14
    go_wp2_with fail
    go_ret
    exact ⟨by rw [hno]; rfl, 0, rfl⟩
end Go.Proofs.Ytaohgefpnndjcaa
