import Derived.Test.YtaohgefpnndjcaaNq5
import Derived.Deep.QuietTactic
import Derived.BigQuiet
import Derived.Test.YtaohgefpnndjcaaNq10
import Derived.Test.YtaohgefpnndjcaaNq7
/-
  The reference's comparison of lists of numbers. No condition.
-/
namespace Go.Proofs.Ytaohgefpnndjcaa
set_option linter.unusedVariables false
open Go.RowKit
theorem rdi_get {w : World} {A : Option Addr} {n : Nat} {xs : List Int} (h : RdI w A n xs) {j : Nat} (hj : j < n) : ∃ b o, A = some ⟨b, o, none⟩ ∧ ∃ hl : j < xs.length, w.cell? ⟨b, o + j, none⟩ = some (.int .i64 xs[j]) := by
  obtain ⟨b, o, e, hc⟩ := Rd.form h (by omega) (by omega)
  have hl : j < xs.length := by rw [h.len]; exact hj
  exact ⟨b, o, e, hl, hc j _ (ivs_get hl)⟩
end Go.Proofs.Ytaohgefpnndjcaa
/-
  The reference of chapter 1: Add, Less, Total, Share, Between. No condition.
-/
namespace Go.Proofs.Ytaohgefpnndjcaa
set_option linter.unusedVariables false
open Go.RowKit
def SPost (x : Int) (w : World) (e : Ending) (w' : World) : Prop := e = .returned (.tuple #[.int .i64 (sumR x).1, .int .i64 ((sumR x).2 : Int)]) ∧ Mod none_ w w'
set_option maxRecDepth 100000 in
theorem radd_ok (w : World) (a b : Int) (ha : I64 a) (hb : I64 b) : Calls Try.prog 40 #[.int .i64 a, .int .i64 b] w (SPost (a + b) w) := by
  have a1 := ha.1; have a2 := ha.2; have b1 := hb.1; have b2 := hb.2
  have hp := fun W => plus_ok W a b (by omega) (by omega)
  have hs := fun W => sum_ok W (a + b) (by omega) (by omega)
  clear a1 a2 b1 b2
  replace ha := Lib.hid ha
  replace hb := Lib.hid hb
  replace hp := Lib.hid hp
  replace hs := Lib.hid hs
  go_enter Try.func40, Try.ntmps40
  go_wp2_with fail
  refine (of_ok _ a ha.out).mono ?_
  rintro e w1 ⟨rfl, hm1⟩
  dsimp only
  replace hm1 := Lib.hid hm1
  go_wp2_with fail
  refine (of_ok _ b hb.out).mono ?_
  rintro e w2 ⟨rfl, hm2⟩
  dsimp only
  replace hm2 := Lib.hid hm2
  go_wp2_with fail
  refine (hp.out _).mono ?_
  rintro e w3 ⟨rfl, hm3⟩
  dsimp only
  replace hm3 := Lib.hid hm3
  go_wp2_with fail
  refine (hs.out _).mono ?_
  rintro e w4 ⟨rfl, hm4⟩
  dsimp only
  replace hm4 := Lib.hid hm4
  go_wp2_with fail
  go_ret2
  exact ⟨rfl, ((hm1.out.trans hm2.out).trans hm3.out).trans hm4.out⟩
set_option maxRecDepth 100000 in
theorem rless_ok (w : World) (a b : Int) (ha : I64 a) (hb : I64 b) : Calls Try.prog 39 #[.int .i64 a, .int .i64 b] w (SPost (a - b) w) := by
  have a1 := ha.1; have a2 := ha.2; have b1 := hb.1; have b2 := hb.2
  have hn := fun W => minus_ok W b (by omega) (by omega)
  have hp := fun W => plus_ok W a (-b) (by omega) (by omega)
  have hs := fun W => sum_ok W (a + -b) (by omega) (by omega)
  rw [show a - b = a + -b by omega]
  clear a1 a2 b1 b2
  replace ha := Lib.hid ha
  replace hb := Lib.hid hb
  replace hp := Lib.hid hp
  replace hs := Lib.hid hs
  replace hn := Lib.hid hn
  go_enter Try.func39, Try.ntmps39
  go_wp2_with fail
  refine (of_ok _ a ha.out).mono ?_
  rintro e w1 ⟨rfl, hm1⟩
  dsimp only
  replace hm1 := Lib.hid hm1
  go_wp2_with fail
  refine (of_ok _ b hb.out).mono ?_
  rintro e w2 ⟨rfl, hm2⟩
  dsimp only
  replace hm2 := Lib.hid hm2
  go_wp2_with fail
  refine (hn.out _).mono ?_
  rintro e w5 ⟨rfl, hm5⟩
  dsimp only
  replace hm5 := Lib.hid hm5
  go_wp2_with fail
  refine (hp.out _).mono ?_
  rintro e w3 ⟨rfl, hm3⟩
  dsimp only
  replace hm3 := Lib.hid hm3
  go_wp2_with fail
  refine (hs.out _).mono ?_
  rintro e w4 ⟨rfl, hm4⟩
  dsimp only
  replace hm4 := Lib.hid hm4
  go_wp2_with fail
  go_ret2
  exact ⟨rfl, (((hm1.out.trans hm2.out).trans hm5.out).trans hm3.out).trans hm4.out⟩
theorem rbtw_val (a lo hi : Int) : btw a lo hi = if hi < lo ∨ a < lo then lo else if hi < a then hi else a := by
  unfold btw
  split
  · omega
  · split <;> omega
end Go.Proofs.Ytaohgefpnndjcaa
/-
  The reference of chapter 1: Total. No condition.
-/
namespace Go.Proofs.Ytaohgefpnndjcaa
set_option linter.unusedVariables false
open Go.RowKit
theorem isum_bd : ∀ (l : List Int), I64s l → -(9223372036854775808 * (l.length : Int)) ≤ isum l ∧ isum l ≤ 9223372036854775808 * (l.length : Int) := by
  intro l
  induction l with
  | nil => intro _; simp [isum_nil]
  | cons x l ih =>
    intro h
    have h1 := h x (by simp)
    have h2 := ih (fun y hy => h y (by simp [hy]))
    rw [isum_cons]
    unfold I64 at h1
    simp only [List.length_cons, Int.natCast_add, Int.natCast_one]
    omega
def RtRel (w : World) (g : Nat) (s : Int) (wr : World) : Prop := ∃ (h : Int) (l : Nat), s = h * 18446744073709551616 + (l : Int) ∧ l < 18446744073709551616 ∧ Blk wr g 85 #[.int .i64 h, .int .u64 (l : Int)] ∧ Mod none_ w wr ∧ w.heap.size ≤ g
set_option maxRecDepth 100000 in
set_option maxHeartbeats 2000000 in
theorem rtotal_ok (w : World) (A : Option Addr) (n c : Nat) (xs : List Int) (h : RdI w A n xs) (hn : n ≤ 1000000000000) (hin : I64s xs) : Calls Try.prog 37 #[.slice A n c] w (SPost (isum xs) w) := by
  have hl := h.len
  have hb0 := isum_bd xs hin
  rw [hl] at hb0
  have hs := fun W => sum_ok W (isum xs) (by omega) (by omega)
  replace h := Lib.hid h
  replace hl := Lib.hid hl
  replace hin := Lib.hid hin
  replace hs := Lib.hid hs
  replace hb0 := Lib.hid hb0
  go_enter Try.func37, Try.ntmps37
  go_wp2_with fail
  go_loopw [5] (fun x wr => ∃ j : Nat, x = .int .i64 j ∧ j ≤ n ∧ RtRel w w.heap.size (isum (xs.take j)) wr) (fun x _ => n - (intOf x).toNat)
  case atStart => exact ⟨0, rfl, by omega, 0, 0, by simp [isum_nil], by omega, Blk.new _ _ _, (Mod.refl none_ w).alloc _, Nat.le_refl _⟩
  case round =>
    obtain ⟨j, rfl, hj, hh, ll, hsum, hll, hb, hm, hg⟩ := hrel
    by_cases hlt : j < n
    · obtain ⟨b, o, e, hc⟩ := Rd.form (Rd.mod0 h.out hm) (show 0 < n by omega) (by omega)
      subst e
      have hjl : j < xs.length := by rw [hl.out]; exact hlt
      have hcell := hc j _ (ivs_get hjl)
      clear hc
      have hx := hin.out xs[j] (List.getElem_mem hjl)
      have hnx : isum (xs.take (j + 1)) = isum (xs.take j) + xs[j] := by rw [List.take_succ_eq_append_getElem hjl, isum_append, isum_cons, isum_nil]; omega
      have hbd := isum_bd (xs.take j) (fun y hy => hin.out y (List.mem_of_mem_take hy))
      rw [List.length_take, hl.out, Nat.min_eq_left hj] at hbd
      generalize xs[j] = x at hcell hx hnx
      have hxx := hx
      unfold I64 at hxx
      have hof := fun W => of_ok W x hx
      have hpl : ∀ W, Calls Try.prog 58 #[wd (isum (xs.take j)), wd x] W (WPost (isum (xs.take (j + 1))) W) := fun W => by rw [hnx]; exact plus_ok W _ x (by omega) (by omega)
      rw [wd_eq hsum hll] at hpl
      have c0 := hb.cell 0
      have c1 := hb.cell 1
      obtain ⟨h2, l2, e2, e3, e4⟩ : ∃ (h2 : Int) (l2 : Nat), isum (xs.take (j + 1)) = h2 * 18446744073709551616 + (l2 : Int) ∧ l2 < 18446744073709551616 ∧ wd (isum (xs.take (j + 1))) = .agg #[.int .i64 h2, .int .u64 (l2 : Int)] := by
        refine ⟨isum (xs.take (j + 1)) / 18446744073709551616, (isum (xs.take (j + 1)) % 18446744073709551616).toNat, by omega, by omega, ?_⟩
        exact wd_eq (by omega) (by omega)
      have hgl := hb.lt
      have hcl := World.block_lt_of_cell? wr _ hcell
      clear hxx hx hbd
      replace hsum := Lib.hid hsum
      replace hll := Lib.hid hll
      replace hb := Lib.hid hb
      replace hm := Lib.hid hm
      replace hg := Lib.hid hg
      replace hof := Lib.hid hof
      replace hpl := Lib.hid hpl
      replace hnx := Lib.hid hnx
      replace e2 := Lib.hid e2
      replace e3 := Lib.hid e3
      replace e4 := Lib.hid e4
      go_wp2_with fail
      go_region_with (first
        | (go_at_call 59; (with_reducible refine (hof.out _).mono ?_); rintro e w1 ⟨rfl, hm1⟩; have hb1 := Blk.mod (hb.out.drew) hm1 (fun hh => hh); have c0' := hb1.cell 0; have c1' := hb1.cell 1; have z1 := hm1.size; have hmm1 := (hm.out.drew).trans hm1; clear hm1; replace hb1 := Lib.hid hb1; replace hmm1 := Lib.hid hmm1)
        | (go_at_call 58; (with_reducible refine (hpl.out _).mono ?_); rintro e w2 ⟨rfl, hm2⟩; rw [e4.out]; have hb2 := Blk.mod hb1.out hm2 (fun hh => hh); have c0'' := hb2.cell 0; have c1'' := hb2.cell 1; have f0 := hb2.frozen 0; have f1 := hb2.frozen 1; have hmm2 := hmm1.out.trans hm2; clear hm2; replace hb2 := Lib.hid hb2; replace hmm2 := Lib.hid hmm2))
      all_goals
        have hlast : Hid (RtRel w w.heap.size (isum (xs.take (j + 1))) ((w2.setCell ⟨w.heap.size, 0, none⟩ (.int .i64 h2)).setCell ⟨w.heap.size, 1, none⟩ (.int .u64 (l2 : Int)))) :=
          Lib.hid ⟨h2, l2, e2.out, e3.out, (hb2.out.set_ 0 _).set_ 1 _, (hmm2.out.setCell (.inr (Nat.le_refl _)) _).setCell (.inr (Nat.le_refl _)) _, Nat.le_refl _⟩
        go_wp2_with fail
        go_roundw
        case rel => exact ⟨j + 1, by go_num, by omega, hlast.out⟩
        case measure => simp [intOf]; omega
    · have hall : xs.take j = xs := List.take_of_length_le (by have := hl.out; omega)
      rw [hall] at hsum
      have hsm := hs.out wr
      rw [wd_eq hsum hll] at hsm
      have c0 := hb.cell 0
      have c1 := hb.cell 1
      clear hall
      replace hsum := Lib.hid hsum
      replace hb := Lib.hid hb
      replace hm := Lib.hid hm
      replace hsm := Lib.hid hsm
      replace hg := Lib.hid hg
      go_wp2_with fail
      refine hsm.out.mono ?_
      rintro e w1 ⟨rfl, hm1⟩
      dsimp only
      replace hm1 := Lib.hid hm1
      go_wp2_with fail
      go_ret2
      exact ⟨rfl, hm.out.trans hm1.out⟩
end Go.Proofs.Ytaohgefpnndjcaa
/-
  The reference's Free, Get, Give, Aside and Total.
-/
namespace Go.Proofs.Ytaohgefpnndjcaa
set_option linter.unusedVariables false
open Go.RowKit
def APost (x : Int) (w : World) (e : Ending) (w' : World) : Prop := e = .returned (.tuple #[.int .i64 (actR x).1, .int .i64 (actR x).2]) ∧ Mod none_ w w'
theorem SPost.act {x : Int} {w : World} {e : Ending} {w' : World} (h : SPost x w e w') : APost x w e w' := ⟨by rw [h.1, actR_eq], h.2⟩
theorem rdi_two (w : World) (e : TypeId) (g : Nat) (hg : g = w.heap.size) (x y : Int) : RdI (w.alloc (.cells #[.int .i64 x, .int .i64 y] e)) (some ⟨g, 0, none⟩) 2 [x, y] := by
  subst hg
  exact rdn w e 1 2 w.heap.size #[.int .i64 x, .int .i64 y] (0, 0) rfl rfl
set_option maxRecDepth 100000 in
set_option maxHeartbeats 2000000 in
theorem rfree_ok (w : World) (a : Ac) (x : Int) (ha : WfA a) (hx : I64 x) : Calls Try.prog 41 #[acV a, .int .i64 x] w fun e w' => e = .returned (.bool (freeB a x)) ∧ Mod none_ w w' := by
  obtain ⟨h1, h2, h3, h4, h5⟩ := ha
  obtain ⟨n, h, s, l⟩ := a
  dsimp only at h1 h2 h3 h4 h5
  unfold freeB acV
  dsimp only
  have hl : wrap64 (-l) = -l := IntWalk.wrap64_in _ ⟨by unfold I64 at h3; omega, by omega⟩
  have hs2 : wrap64 (-s) = -s := IntWalk.wrap64_in _ ⟨by unfold I64 at h2; omega, by omega⟩
  have hin : I64s [h, -s] := by
    intro y hy
    simp only [List.mem_cons, List.not_mem_nil, or_false] at hy
    unfold I64 at *
    rcases hy with rfl | rfl
    · omega
    · omega
  have c1 := Lib.hid (fun W A (hr : RdI W A 2 [h, -s]) => (rtotal_ok W A 2 2 [h, -s] hr (by omega) hin).mono (fun e w' hp => SPost.act hp))
  rw [show isum [h, -s] = h - s by rw [isum_cons, isum_cons, isum_nil]; omega] at c1
  unfold APost at c1
  cases i1 : inI (h - s) with
  | false =>
    rw [act_no i1] at c1
    replace h1 := Lib.hid h1
    replace h2 := Lib.hid h2
    replace h3 := Lib.hid h3
    replace h4 := Lib.hid h4
    replace h5 := Lib.hid h5
    replace hx := Lib.hid hx
    replace i1 := Lib.hid i1
    replace hl := Lib.hid hl
    replace hin := Lib.hid hin
    go_enter Try.func41, Try.ntmps41
    go_wp2_with fail
    refine (c1.out _ _ (rdi_two _ _ (w.heap.size + 1) (by simp) _ _)).mono ?_
    rintro e w1 ⟨rfl, hm1⟩
    dsimp only
    have hm := Lib.hid ((((Mod.refl none_ w).alloc _).alloc _).trans hm1)
    clear hm1
    go_wp2_with fail
    go_ret
    exact ⟨rfl, hm.out⟩
  | true =>
    rw [act_yes i1] at c1
    have hr : I64 (h - s) := ⟨(inI_yes.1 i1).1, (inI_yes.1 i1).2⟩
    have c2 := Lib.hid (fun W => (rless_ok W (h - s) x hr hx).mono (fun e w' hp => SPost.act hp))
    unfold APost at c2
    cases i2 : inI (h - s - x) with
    | false =>
      rw [act_no i2] at c2
      replace h1 := Lib.hid h1
      replace h2 := Lib.hid h2
      replace h3 := Lib.hid h3
      replace h4 := Lib.hid h4
      replace h5 := Lib.hid h5
      replace hx := Lib.hid hx
      replace i1 := Lib.hid i1
      replace hl := Lib.hid hl
      replace i2 := Lib.hid i2
      replace hr := Lib.hid hr
      replace hin := Lib.hid hin
      go_enter Try.func41, Try.ntmps41
      go_wp2_with fail
      refine (c1.out _ _ (rdi_two _ _ (w.heap.size + 1) (by simp) _ _)).mono ?_
      rintro e w1 ⟨rfl, hm1⟩
      dsimp only
      have hm := Lib.hid ((((Mod.refl none_ w).alloc _).alloc _).trans hm1)
      clear hm1
      go_wp2_with fail
      refine (c2.out _).mono ?_
      rintro e w2 ⟨rfl, hm2⟩
      dsimp only
      have hmm := Lib.hid (hm.out.trans hm2)
      clear hm2 hm
      go_wp2_with fail
      go_ret
      exact ⟨rfl, hmm.out⟩
    | true =>
      rw [act_yes i2] at c2
      replace h1 := Lib.hid h1
      replace h2 := Lib.hid h2
      replace h3 := Lib.hid h3
      replace h4 := Lib.hid h4
      replace h5 := Lib.hid h5
      replace hx := Lib.hid hx
      replace i1 := Lib.hid i1
      replace i2 := Lib.hid i2
      replace hr := Lib.hid hr
      replace hin := Lib.hid hin
      go_enter Try.func41, Try.ntmps41
      go_wp2_with fail
      refine (c1.out _ _ (rdi_two _ _ (w.heap.size + 1) (by simp) _ _)).mono ?_
      rintro e w1 ⟨rfl, hm1⟩
      dsimp only
      have hb := ((Blk.new w 46 #[.string (txt n), .int .i64 h, .int .i64 s, .int .i64 l]).alloc (.cells #[.int .i64 h, .int .i64 (-s)] 2)).mod hm1 (fun hh => hh)
      have hm := Lib.hid ((((Mod.refl none_ w).alloc _).alloc _).trans hm1)
      clear hm1
      replace hb := Lib.hid hb
      go_wp2_with fail
      refine (c2.out _).mono ?_
      rintro e w2 ⟨rfl, hm2⟩
      dsimp only
      have hq : w2.cell? ⟨w.heap.size, 3, none⟩ = some (.int .i64 l) := (hb.out.mod hm2 (fun hh => hh)).cell_ rfl
      have hmm := Lib.hid (hm.out.trans hm2)
      clear hm2 hm hb
      go_wp2_with fail
      go_ret
      exact ⟨rfl, hmm.out⟩
/-- a copy of a row of accounts -/
theorem copyA {w : World} {ops : Array Oper} {rest : List Oper} {o : Oper} {a : Act} {Q : Exit → Act → World → Prop} (hgd : o.guard = none) (s x : Operand)
    (ho : o.op = .call { callee := .builtin .append, args := #[s, x], argTypes := #[22, 22] })
    (hs : a.eval s = .slice none 0 0) {S : Option Addr} {m d : Nat} {news : List Ac} (hx : a.eval x = .slice S m d) (hr : RdA w S m news) (hb : m ≤ 1000)
    (h : ∀ A' c' w', OwA w' A' m c' news → Mod none_ w w' → Fresh w A' → wpList Try.prog ops Q rest (a.put o.dst (.slice A' m c')) w') : wpList Try.prog ops Q (o :: rest) a w := by
  refine appA hgd s x ho hs (show OwA w none 0 0 [] from Ow.nil _ _ _) hx hr (by omega) ?_
  intro A' c' w' h1 h2 h3
  rw [Nat.zero_add] at h1 ⊢
  refine h A' c' w' h1 (h2.mono ?_) ?_
  · rintro i ⟨a, h, _⟩; cases h
  · rcases h3 with rfl | rfl
    · intro a ha; cases ha
    · intro a ha; cases ha; exact Nat.le_refl _
theorem acs_cons (y : Ac) (l : List Ac) : acs (y :: l) = [.string (txt y.n), .int .i64 y.h, .int .i64 y.s, .int .i64 y.l] ++ acs l := rfl
theorem acs_set_h : ∀ (C : List Ac) (i : Nat) (hi : i < C.length) (v : Int), (acs C).set (i*4+1) (.int .i64 v) = acs (C.set i { C[i] with h := v })
  | y :: l, 0, _, v => rfl
  | y :: l, i + 1, hi, v => by
    have ih := acs_set_h l i (by simpa using hi) v
    rw [acs_cons, List.set_append_right _ _ (by simp; omega)]
    simp only [List.length_cons, List.length_nil, List.set_cons_succ, List.getElem_cons_succ, acs_cons]
    rw [show (i + 1) * 4 + 1 - (0 + 1 + 1 + 1 + 1) = i * 4 + 1 by omega, ih]
theorem acs_set_s : ∀ (C : List Ac) (i : Nat) (hi : i < C.length) (v : Int), (acs C).set (i*4+2) (.int .i64 v) = acs (C.set i { C[i] with s := v })
  | y :: l, 0, _, v => rfl
  | y :: l, i + 1, hi, v => by
    have ih := acs_set_s l i (by simpa using hi) v
    rw [acs_cons, List.set_append_right _ _ (by simp; omega)]
    simp only [List.length_cons, List.length_nil, List.set_cons_succ, List.getElem_cons_succ, acs_cons]
    rw [show (i + 1) * 4 + 2 - (0 + 1 + 1 + 1 + 1) = i * 4 + 2 by omega, ih]
def RfPost (w : World) (q B : Nat) (r : List Ac × Int) (e : Ending) (w' : World) : Prop := e = .returned (.int .i64 r.2) ∧ RefAt w' q B r.1 ∧ Mod (· = q) w w'
/-- the cells of the account that stands at i -/
theorem RefAt.at_ {w : World} {q B : Nat} {C : List Ac} {a : Ac} {i : Nat} (h : RefAt w q B C) (hi : C[i]? = some a) : ∃ g c, w.cell? ⟨q, 0, none⟩ = some (.slice (some ⟨g, 0, none⟩) C.length c) ∧ RdA w (some ⟨g, 0, none⟩) C.length C ∧ Blk w q 36 #[.slice (some ⟨g, 0, none⟩) C.length c] ∧ i < C.length ∧
    w.cell? ⟨g, i*4, none⟩ = some (.string (txt a.n)) ∧ w.cell? ⟨g, i*4 + 1, none⟩ = some (.int .i64 a.h) ∧ w.cell? ⟨g, i*4 + 2, none⟩ = some (.int .i64 a.s) ∧ w.cell? ⟨g, i*4 + 3, none⟩ = some (.int .i64 a.l) := by
  obtain ⟨A, c, h1, h2, _⟩ := h
  have hlt : i < C.length := by
    rcases Nat.lt_or_ge i C.length with h | h
    · exact h
    · rw [List.getElem?_eq_none h] at hi; cases hi
  obtain ⟨g, cur, rfl, _⟩ := Ow.form h2 (show 0 < C.length by omega)
  obtain ⟨b, o, e, y1, y2, y3, y4⟩ := rda_get (Ow.rd h2) hlt (by omega)
  injection e with e
  injection e with e1 e2
  subst e1; subst e2
  rw [List.getElem?_eq_getElem hlt] at hi
  injection hi with hi
  rw [hi] at y1 y2 y3 y4
  rw [Nat.zero_add] at y1 y2 y3 y4
  exact ⟨g, c, h1.cell_ rfl, Ow.rd h2, h1, hlt, y1, y2, y3, y4⟩
set_option maxRecDepth 100000 in
set_option maxHeartbeats 2000000 in
theorem rget_ok (w : World) (q B : Nat) (C : List Ac) (s : List UInt8) (h : RefAt w q B C) (hl : C.length ≤ 1000) :
    Calls Try.prog 38 #[.pointer (some ⟨q, 0, none⟩), .string (txt s)] w (GetPost (getV C s) w) := by
  unfold getV
  cases hg : getC C s with
  | none =>
    have ca := Lib.hid (fun W (h : RefAt W q B C) => rat_none W q B C s h hl hg)
    replace h := Lib.hid h
    replace hg := Lib.hid hg
    go_enter Try.func38, Try.ntmps38
    go_wp2_with fail
    refine (ca.out _ (h.out.mod0 ((Mod.refl _ _).alloc _))).mono ?_
    rintro e w1 ⟨rfl, rfl⟩
    dsimp only
    go_wp2_with fail
    exact ret_acct rfl w.heap.size _ rfl (Blk.new w 46 _) rfl rfl ⟨rfl, (Mod.refl _ _).alloc _⟩
  | some a =>
    obtain ⟨i, hst, hget⟩ := stands_of hg
    have ca := Lib.hid (fun W (h : RefAt W q B C) => rat_some W q B C s i h hl hst)
    obtain ⟨g, c, hcell, hrd, hq, hi, y1, y2, y3, y4⟩ := h.at_ hget
    have hql := hq.lt
    have hgl := World.block_lt_of_cell? w _ y1
    replace h := Lib.hid h
    replace hg := Lib.hid hg
    replace hrd := Lib.hid hrd
    replace hq := Lib.hid hq
    replace hst := Lib.hid hst
    replace hget := Lib.hid hget
    go_enter Try.func38, Try.ntmps38
    go_wp2_with fail
    refine (ca.out _ (h.out.mod0 ((Mod.refl _ _).alloc _))).mono ?_
    rintro e w1 ⟨rfl, rfl⟩
    dsimp only
    go_wp2_with fail
    exact ret_acct rfl w.heap.size _ rfl (Blk.new w 46 _) rfl rfl ⟨rfl, (Mod.refl _ _).alloc _⟩
end Go.Proofs.Ytaohgefpnndjcaa
