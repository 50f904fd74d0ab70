/-
  RatioLeft: the walk. The table of powers of ten reads as the program's text lays it.
-/
import Derived.Test.YtlikknamliamiaaDoorRatChg
import Derived.Test.YtlikknamliamiaaDoorRatP
import Derived.Test.YtlikknamliamiaaDoorRatLives
import Derived.Test.YtlikknamliamiaaDoorOpen
namespace Go.Proofs.YtlikknamliamiaaDoor
set_option linter.unusedVariables false
open Go.RowKit
theorem umod_lit' (x : Int) (m : Nat) (h0 : 0 < m) (h1 : m ≤ 1000000) : ∃ k : Nat, k < m ∧ (IntKind.u64.wrap x).tmod (m : Int) = (k : Int) ∧ IntKind.u64.wrap x % (m : Int) = (k : Int) := by
  have hx := (wrap_u64_lt x).1
  generalize IntKind.u64.wrap x = q at hx
  have e : q.tmod (m : Int) = q % (m : Int) := Int.tmod_eq_emod_of_nonneg hx
  have l1 := Int.emod_nonneg q (b := (m : Int)) (by omega)
  have l2 := Int.emod_lt_of_pos q (show (0 : Int) < (m : Int) by omega)
  exact ⟨(q % (m : Int)).toNat, by omega, by omega, by omega⟩
def two_ : Nat := 4611686018427387904
theorem V_two : V two_ = 2*U := by kernel_rfl
theorem sgn_two : sgn two_ = false := by decide
theorem nabsU' (n : Int) : (n*U).natAbs = n.natAbs*U := by rw [Int.natAbs_mul]; rfl
theorem rmag_two : rmag (two_ % 2^63) = 2*U := by rw [← V_abs, V_two, nabsU', show (2:Int).natAbs = 2 from rfl]
theorem HUTP : tp 1073 = HU := rfl
/-- the half of a small number -/
theorem half_of_int (h : Int) (hh : h.natAbs ≤ 2^40) : ∃ z, D.div (ofI h) two_ = some z ∧ Fin' z ∧ rmag (z % 2^63) = h.natAbs*tp 1073 ∧ V z = h*HU := by
  obtain ⟨f1, f2⟩ := ofI_fin h (by omega)
  have f3 : rmag (ofI h % 2^63) = h.natAbs*U := by rw [← V_abs, f2, nabsU']
  have hU := U_pos
  obtain ⟨z, h1, h2⟩ := div_fin _ _ f1 (fin_lt (x := two_) (by decide)) (by rw [rmag_two]; omega)
  rw [f3, rmag_two, sgn_two, Bool.xor_false] at h2
  obtain ⟨r, hr, hm⟩ := rung_of h.natAbs 1073 (by omega) (by omega)
  obtain ⟨h3, h4, h5⟩ := h2.at (r := r) (by omega) (by rw [hm, HUTP, U_eq]; generalize HU = H; ac_rfl) hr
  refine ⟨z, h1, h3, by rw [h5, hm], ?_⟩
  have e : V (ofI h) = if sgn (ofI h) then -(rmag (ofI h % 2^63) : Int) else (rmag (ofI h % 2^63) : Int) := rfl
  rw [f2, f3] at e
  have e2 : V z = if sgn z then -(rmag (z % 2^63) : Int) else (rmag (z % 2^63) : Int) := rfl
  rw [h4, h5, hm, HUTP] at e2
  have hH : (HU:Int) ≠ 0 := by have := HU_pos; omega
  have hU2 : (U:Int) = 2*HU := by rw [U_eq]; simp
  rw [e2]
  cases hs : sgn (ofI h)
  · rw [hs] at e
    simp only [Bool.false_eq_true, if_false] at e ⊢
    have : h = h.natAbs := by
      refine Int.eq_of_mul_eq_mul_right (a := (U:Int)) (by omega) ?_
      rw [e, Int.natCast_mul]
    rw [Int.natCast_mul, ← this]
  · rw [hs] at e
    simp only [if_true] at e ⊢
    have : h = -(h.natAbs : Int) := by
      refine Int.eq_of_mul_eq_mul_right (a := (U:Int)) (by omega) ?_
      rw [e, Int.natCast_mul, Int.neg_mul]
    rw [Int.natCast_mul, ← Int.neg_mul, ← this]
def halfR (h a : Int) : Int := rneI ((a*h)*HU)
theorem times_half (h a : Int) (z : Nat) (hh : h.natAbs ≤ 10) (hz : Fin' z) (hr : rmag (z % 2^63) = h.natAbs*tp 1073) (hV : V z = h*HU) (ha : a.natAbs ≤ 2^48) : timesR a z = some (halfR h a) := by
  have hm : a.natAbs*h.natAbs ≤ 2^48*10 := Nat.mul_le_mul ha hh
  rw [timesR_exact a z h.natAbs 1073 (by omega) hz (by omega) (by omega) hr, hV, ← Int.mul_assoc]; rfl
theorem halfR_near (h a : Int) : 2*halfR h a ≤ a*h+1 ∧ a*h ≤ 2*halfR h a + 1 := half_near (a*h)
theorem isum_map_half (h : Int) (xs : List Int) : 2*isum (xs.map (halfR h)) ≤ isum xs * h + xs.length ∧ isum xs * h ≤ 2*isum (xs.map (halfR h)) + xs.length := by
  induction xs with
  | nil => simp [isum_nil]
  | cons x xs ih =>
    have := halfR_near h x
    rw [List.map_cons, isum_cons, isum_cons, Int.add_mul, List.length_cons]
    omega
theorem isum_small (b : Nat) (xs : List Int) (h : ∀ x ∈ xs, x.natAbs ≤ b) : (isum xs).natAbs ≤ xs.length*b := by
  induction xs with
  | nil => simp [isum_nil]
  | cons x xs ih =>
    have h1 := ih (fun y hy => h y (List.mem_cons_of_mem _ hy))
    have h2 := h x (List.mem_cons_self ..)
    rw [isum_cons, List.length_cons, Nat.succ_mul]; omega
theorem halfR_small (h a : Int) (hh : h.natAbs ≤ 10) (ha : a.natAbs ≤ 2^48) : (halfR h a).natAbs ≤ 2^52 := by
  have := halfR_near h a
  have hm : (a*h).natAbs ≤ 2^48*10 := by rw [Int.natAbs_mul]; exact Nat.mul_le_mul ha hh
  omega
set_option maxRecDepth 100000 in
set_option maxHeartbeats 2000000 in
theorem change_nil (w : World) (A : Option Addr) (c x : Nat) : Calls Tryd.prog 21 #[.slice A 0 c, .float .f64 x] w fun e w' => e = .returned (.tuple #[.slice none 0 0, .int .i64 0, .int .i64 0]) ∧ w = w' := by
  go_enter Tryd.func21, Tryd.ntmps21
  go_wp2_with fail
  go_loopw [7, 19] (fun v x wr => v = .slice none 0 0 ∧ x = .int .i64 0 ∧ w = wr) (fun _ x _ => 0)
  case atStart => exact ⟨rfl, rfl, rfl⟩
  case round =>
    obtain ⟨rfl, rfl, rfl⟩ := hrel
    go_wp2_with fail
    go_ret3
    exact ⟨rfl, rfl⟩
set_option maxRecDepth 100000 in
theorem change_halves (w : World) (A : Option Addr) (n c z : Nat) (h : Int) (xs : List Int) (hl : RdI w A n xs) (hn : n ≤ 100) (hs : ∀ x ∈ xs, x.natAbs < 2^40) (hh : h.natAbs ≤ 10) (hz : Fin' z) (hr : rmag (z % 2^63) = h.natAbs*tp 1073) (hV : V z = h*HU) :
    Calls Tryd.prog 21 #[.slice A n c, .float .f64 z] w fun e w' => ∃ A' c' left, e = .returned (.tuple #[.slice A' n c', .int .i64 left, .int .i64 0]) ∧ (-((n:Int)+1) ≤ 2*left ∧ 2*left ≤ (n:Int)+1) ∧ Mod none_ w w' := by
  by_cases h0 : n = 0
  · subst h0
    refine (change_nil w A c z).mono ?_
    rintro e w1 ⟨rfl, rfl⟩
    exact ⟨_, _, 0, rfl, by omega, Mod.refl _ _⟩
  · have hlen := hl.len
    have hsum : (isum xs).natAbs ≤ 2^48 := by
      have := isum_small (2^40) xs (fun x hx => Nat.le_of_lt (hs x hx))
      rw [hlen] at this
      have : n*2^40 ≤ 100*2^40 := Nat.mul_le_mul_right _ hn
      omega
    have hrs : (isum (xs.map (halfR h))).natAbs ≤ 100*2^52 := by
      have := isum_small (2^52) (xs.map (halfR h)) (fun x hx => by
        obtain ⟨a, ha, rfl⟩ := List.mem_map.1 hx
        exact halfR_small h a hh (by have := hs a ha; omega))
      rw [List.length_map, hlen] at this
      exact Nat.le_trans this (Nat.mul_le_mul_right _ hn)
    have hwh := halfR_small h (isum xs) hh hsum
    have n1 := isum_map_half h xs
    have n2 := halfR_near h (isum xs)
    rw [hlen] at n1
    refine (change_ok w A n c z xs (xs.map (halfR h)) (halfR h (isum xs)) hl hn (by omega) (fun x hx => by have := hs x hx; unfold I64; omega) (by rw [List.length_map]; exact hlen) (fun y hy => by
        obtain ⟨a, ha, rfl⟩ := List.mem_map.1 hy
        have := halfR_small h a hh (by have := hs a ha; omega)
        unfold I64; omega) (fun j h1 h2 => by
        rw [List.getElem_map]
        exact times_half h _ z hh hz hr hV (by have := hs _ (List.getElem_mem h1); omega))
      (inI_yes.2 (by omega)) (inI_yes.2 (by omega)) (times_half h _ z hh hz hr hV hsum) (by unfold I64; omega) (inI_yes.2 (by omega))).mono ?_
    rintro e w1 ⟨A', c', rfl, hm⟩
    exact ⟨A', c', _, rfl, by omega, hm⟩
def LfRel (w : World) (xs : List Int) (j : Nat) (v : Value) (wr : World) : Prop := ∃ A c, v = .slice A j c ∧ OwI wr A j c (xs.take j) ∧ Fresh w A ∧ Mod none_ w wr
set_option maxRecDepth 100000 in
set_option maxHeartbeats 2000000 in
theorem ratioLeft_walk (w : World) (A : Option Addr) (n c : Nat) (l : List Int) (h : RdI w A n l) (halves : Int) (hT : Tab w) :
    Calls Tryd.prog 8 #[.slice A n c, .int .i64 halves] w fun e w' => e = .returned (.bool true) ∧ Below w.heap.size w w' := by
  have c0 := Lib.hid (lives_ok w hT)
  have hl := h.len
  obtain ⟨k, hk, u1, u2⟩ := umod_lit' halves 21 (by omega) (by omega)
  rw [show ((21 : Nat) : Int) = 21 from rfl] at u1 u2
  obtain ⟨z, hz, hzf, hzr, hzV⟩ := half_of_int ((k:Int) - 10) (by omega)
  have hdiv := fun W ty => run_float_arith (P := Tryd.prog) W .quo ty .f64 (floatOfInt .f64 ((k:Int) - 10)) 4611686018427387904 z hz
  have hxl : ((l.take 100).map (fun a => a.tmod 1099511627776)).length = min n 100 := by simp; omega
  have hxs : ∀ x ∈ (l.take 100).map (fun a => a.tmod 1099511627776), x.natAbs < 2^40 := by
    intro x hx
    obtain ⟨a, _, rfl⟩ := List.mem_map.1 hx
    rw [Int.natAbs_tmod]; exact Nat.mod_lt _ (by decide)
  have hxg : ∀ j (h1 : j < ((l.take 100).map (fun a => a.tmod 1099511627776)).length) (h2 : j < l.length), ((l.take 100).map (fun a => a.tmod 1099511627776))[j] = l[j].tmod 1099511627776 := by
    intro j h1 h2
    simp
  generalize (l.take 100).map (fun a => a.tmod 1099511627776) = xs at hxl hxs hxg
  have cc := Lib.hid (fun W B d hr => change_halves W B (min n 100) d z ((k:Int)-10) xs hr (by omega) hxs (by omega) hzf hzr hzV)
  obtain ⟨m, hm⟩ : ∃ m, min n 100 = m := ⟨_, rfl⟩
  rw [hm] at cc hxl
  replace h := Lib.hid h
  replace hl := Lib.hid hl
  replace hz := Lib.hid hz
  replace hzf := Lib.hid hzf
  replace hzr := Lib.hid hzr
  replace hzV := Lib.hid hzV
  replace hxl := Lib.hid hxl
  replace hxs := Lib.hid hxs
  replace hxg := Lib.hid hxg
  replace hT := Lib.hid hT
  go_enter Tryd.func8, Tryd.ntmps8
  go_wp2_with fail
  refine c0.out.mono ?_
  rintro e w0 ⟨rfl, hm0⟩
  dsimp only
  replace hm0 := Lib.hid hm0
  go_wp2_with fail
  go_loopw [5, 6] (fun v x wr => ∃ j : Nat, x = .int .i64 j ∧ j ≤ m ∧ LfRel w xs j v wr) (fun _ x _ => m - (intOf x).toNat)
  case atStart => exact ⟨0, rfl, by omega, none, 0, rfl, Ow.nil _ _ _, (fun _ h => by cases h), hm0.out⟩
  case round =>
    obtain ⟨j, rfl, hj, B, d, rfl, ho, hf, hmr⟩ := hrel
    by_cases hlt : j < m
    · have hj1 : j < n := by omega
      have hj2 : j < 100 := by omega
      obtain ⟨b, o, e, hc⟩ := Rd.form (h.out.mod0 hmr) (show 0 < n by omega) (by omega)
      subst e
      have hjl : j < l.length := by rw [hl.out]; exact hj1
      have hjx : j < xs.length := by rw [hxl.out]; exact hlt
      have hcell := hc j _ (ivs_get hjl)
      clear hc
      have hg := hxg.out j hjx hjl
      have hnx := Lib.hid (take_snoc hjx)
      generalize xs[j] = r at hg hnx
      generalize l[j] = y at hcell hg
      replace ho := Lib.hid ho
      replace hf := Lib.hid hf
      replace hmr := Lib.hid hmr
      replace hjl := Lib.hid hjl
      replace hjx := Lib.hid hjx
      clear hm
      go_wp2_with (at_builtin; go_loud (refine app64 rfl (.tmp 23) (.tmp 29) rfl rfl (ho.out.mod0 ((Mod.refl none_ _).alloc _)) rfl (rdi_one _ _ _) (by omega) ?_; intro A' c' w' ho' hm' hA'; replace ho' := Lib.hid ho'; replace hm' := Lib.hid hm'; replace hA' := Lib.hid hA'))
      go_roundw
      case rel =>
        refine ⟨j + 1, by go_num, by omega, A', c', rfl, ?_, Fresh.app hf.out (hmr.out.alloc _).size hA'.out, (hmr.out.alloc _).app hf.out hm'.out⟩
        have := ho'.out
        rwa [← hnx.out, hg]
      case measure => simp [intOf]; omega
    · have hjk : j = m := by omega
      subst hjk
      have hall : xs.take j = xs := List.take_of_length_le (by have := hxl.out; omega)
      rw [hall] at ho
      clear hall
      have hend : ((n:Int) ≤ (j:Int)) ∨ ((j:Int) < (n:Int) ∧ (j:Int) = 100) := by omega
      have hj100 : j ≤ 100 := by omega
      clear hm hlt hj
      replace ho := Lib.hid ho
      replace hf := Lib.hid hf
      replace hmr := Lib.hid hmr
      rcases hend with hend | ⟨hend, hend2⟩
      all_goals
        go_wp2_with fail
        refine (cc.out wr B d ho.out.rd).mono ?_
        rintro e w2 ⟨A', c', left, rfl, ⟨b1, b2⟩, hm1⟩
        dsimp only
        have m1 := Lib.hid (hmr.out.then hm1 (fun _ _ h => h))
        clear hm1
        by_cases hneg : left < 0
        · go_wp2_with fail
          go_ret
          refine ⟨?_, m1.out.below0⟩
          first
            | (show Ending.returned (.bool (decide (-left ≤ ((j:Int)+1)/2+1))) = _; rw [decide_eq_true (by omega)])
            | (show Ending.returned (.bool (decide (-left ≤ 51))) = _; rw [decide_eq_true (by omega)])
            | (show Ending.returned (.bool (decide (left ≤ ((j:Int)+1)/2+1))) = _; rw [decide_eq_true (by omega)])
            | (show Ending.returned (.bool (decide (left ≤ 51))) = _; rw [decide_eq_true (by omega)])
        · go_wp2_with fail
          go_ret
          refine ⟨?_, m1.out.below0⟩
          first
            | (show Ending.returned (.bool (decide (-left ≤ ((j:Int)+1)/2+1))) = _; rw [decide_eq_true (by omega)])
            | (show Ending.returned (.bool (decide (-left ≤ 51))) = _; rw [decide_eq_true (by omega)])
            | (show Ending.returned (.bool (decide (left ≤ ((j:Int)+1)/2+1))) = _; rw [decide_eq_true (by omega)])
            | (show Ending.returned (.bool (decide (left ≤ 51))) = _; rw [decide_eq_true (by omega)])
end Go.Proofs.YtlikknamliamiaaDoor
