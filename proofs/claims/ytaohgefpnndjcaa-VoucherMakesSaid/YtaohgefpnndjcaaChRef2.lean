/-
  The reference's Free, Get, Give, Aside and Total.
-/
import Derived.Test.YtaohgefpnndjcaaChRef1
import Derived.Test.YtaohgefpnndjcaaChDoes
import Derived.Test.YtaohgefpnndjcaaRefTot
namespace Go.Proofs.Ytaohgefpnndjcaa
set_option linter.unusedVariables false
open Go.RowKit
def APost (x : Int) (w : World) (e : Ending) (w' : World) : Prop := e = .returned (.tuple #[.int .i64 (actR x).1, .int .i64 (actR x).2]) ∧ Mod none_ w w'
theorem SPost.act {x : Int} {w : World} {e : Ending} {w' : World} (h : SPost x w e w') : APost x w e w' := ⟨by rw [h.1, actR_eq], h.2⟩
theorem rdi_two (w : World) (e : TypeId) (g : Nat) (hg : g = w.heap.size) (x y : Int) : RdI (w.alloc (.cells #[.int .i64 x, .int .i64 y] e)) (some ⟨g, 0, none⟩) 2 [x, y] := by
  subst hg
  exact rdn w e 1 2 w.heap.size #[.int .i64 x, .int .i64 y] (0, 0) rfl rfl
set_option maxRecDepth 100000 in
set_option maxHeartbeats 2000000 in
theorem rfree_ok (w : World) (a : Ac) (x : Int) (ha : WfA a) (hx : I64 x) : Calls Try.prog 41 #[acV a, .int .i64 x] w fun e w' => e = .returned (.bool (freeB a x)) ∧ Mod none_ w w' := by
  obtain ⟨h1, h2, h3, h4, h5⟩ := ha
  obtain ⟨n, h, s, l⟩ := a
  dsimp only at h1 h2 h3 h4 h5
  unfold freeB acV
  dsimp only
  have hl : wrap64 (-l) = -l := IntWalk.wrap64_in _ ⟨by unfold I64 at h3; omega, by omega⟩
  have hs2 : wrap64 (-s) = -s := IntWalk.wrap64_in _ ⟨by unfold I64 at h2; omega, by omega⟩
  have hin : I64s [h, -s] := by
    intro y hy
    simp only [List.mem_cons, List.not_mem_nil, or_false] at hy
    unfold I64 at *
    rcases hy with rfl | rfl
    · omega
    · omega
  have c1 := Lib.hid (fun W A (hr : RdI W A 2 [h, -s]) => (rtotal_ok W A 2 2 [h, -s] hr (by omega) hin).mono (fun e w' hp => SPost.act hp))
  rw [show isum [h, -s] = h - s by rw [isum_cons, isum_cons, isum_nil]; omega] at c1
  unfold APost at c1
  cases i1 : inI (h - s) with
  | false =>
    rw [act_no i1] at c1
    replace h1 := Lib.hid h1
    replace h2 := Lib.hid h2
    replace h3 := Lib.hid h3
    replace h4 := Lib.hid h4
    replace h5 := Lib.hid h5
    replace hx := Lib.hid hx
    replace i1 := Lib.hid i1
    replace hl := Lib.hid hl
    replace hin := Lib.hid hin
    go_enter Try.func41, Try.ntmps41
    go_wp2_with fail
    refine (c1.out _ _ (rdi_two _ _ (w.heap.size + 1) (by simp) _ _)).mono ?_
    rintro e w1 ⟨rfl, hm1⟩
    dsimp only
    have hm := Lib.hid ((((Mod.refl none_ w).alloc _).alloc _).trans hm1)
    clear hm1
    go_wp2_with fail
    go_ret
    exact ⟨rfl, hm.out⟩
  | true =>
    rw [act_yes i1] at c1
    have hr : I64 (h - s) := ⟨(inI_yes.1 i1).1, (inI_yes.1 i1).2⟩
    have c2 := Lib.hid (fun W => (rless_ok W (h - s) x hr hx).mono (fun e w' hp => SPost.act hp))
    unfold APost at c2
    cases i2 : inI (h - s - x) with
    | false =>
      rw [act_no i2] at c2
      replace h1 := Lib.hid h1
      replace h2 := Lib.hid h2
      replace h3 := Lib.hid h3
      replace h4 := Lib.hid h4
      replace h5 := Lib.hid h5
      replace hx := Lib.hid hx
      replace i1 := Lib.hid i1
      replace hl := Lib.hid hl
      replace i2 := Lib.hid i2
      replace hr := Lib.hid hr
      replace hin := Lib.hid hin
      go_enter Try.func41, Try.ntmps41
      go_wp2_with fail
      refine (c1.out _ _ (rdi_two _ _ (w.heap.size + 1) (by simp) _ _)).mono ?_
      rintro e w1 ⟨rfl, hm1⟩
      dsimp only
      have hm := Lib.hid ((((Mod.refl none_ w).alloc _).alloc _).trans hm1)
      clear hm1
      go_wp2_with fail
      refine (c2.out _).mono ?_
      rintro e w2 ⟨rfl, hm2⟩
      dsimp only
      have hmm := Lib.hid (hm.out.trans hm2)
      clear hm2 hm
      go_wp2_with fail
      go_ret
      exact ⟨rfl, hmm.out⟩
    | true =>
      rw [act_yes i2] at c2
      replace h1 := Lib.hid h1
      replace h2 := Lib.hid h2
      replace h3 := Lib.hid h3
      replace h4 := Lib.hid h4
      replace h5 := Lib.hid h5
      replace hx := Lib.hid hx
      replace i1 := Lib.hid i1
      replace i2 := Lib.hid i2
      replace hr := Lib.hid hr
      replace hin := Lib.hid hin
      go_enter Try.func41, Try.ntmps41
      go_wp2_with fail
      refine (c1.out _ _ (rdi_two _ _ (w.heap.size + 1) (by simp) _ _)).mono ?_
      rintro e w1 ⟨rfl, hm1⟩
      dsimp only
      have hb := ((Blk.new w 46 #[.string (txt n), .int .i64 h, .int .i64 s, .int .i64 l]).alloc (.cells #[.int .i64 h, .int .i64 (-s)] 2)).mod hm1 (fun hh => hh)
      have hm := Lib.hid ((((Mod.refl none_ w).alloc _).alloc _).trans hm1)
      clear hm1
      replace hb := Lib.hid hb
      go_wp2_with fail
      refine (c2.out _).mono ?_
      rintro e w2 ⟨rfl, hm2⟩
      dsimp only
      have hq : w2.cell? ⟨w.heap.size, 3, none⟩ = some (.int .i64 l) := (hb.out.mod hm2 (fun hh => hh)).cell_ rfl
      have hmm := Lib.hid (hm.out.trans hm2)
      clear hm2 hm hb
      go_wp2_with fail
      go_ret
      exact ⟨rfl, hmm.out⟩
/-- a copy of a row of accounts -/
theorem copyA {w : World} {ops : Array Oper} {rest : List Oper} {o : Oper} {a : Act} {Q : Exit → Act → World → Prop} (hgd : o.guard = none) (s x : Operand)
    (ho : o.op = .call { callee := .builtin .append, args := #[s, x], argTypes := #[22, 22] })
    (hs : a.eval s = .slice none 0 0) {S : Option Addr} {m d : Nat} {news : List Ac} (hx : a.eval x = .slice S m d) (hr : RdA w S m news) (hb : m ≤ 1000)
    (h : ∀ A' c' w', OwA w' A' m c' news → Mod none_ w w' → Fresh w A' → wpList Try.prog ops Q rest (a.put o.dst (.slice A' m c')) w') : wpList Try.prog ops Q (o :: rest) a w := by
  refine appA hgd s x ho hs (show OwA w none 0 0 [] from Ow.nil _ _ _) hx hr (by omega) ?_
  intro A' c' w' h1 h2 h3
  rw [Nat.zero_add] at h1 ⊢
  refine h A' c' w' h1 (h2.mono ?_) ?_
  · rintro i ⟨a, h, _⟩; cases h
  · rcases h3 with rfl | rfl
    · intro a ha; cases ha
    · intro a ha; cases ha; exact Nat.le_refl _
theorem acs_cons (y : Ac) (l : List Ac) : acs (y :: l) = [.string (txt y.n), .int .i64 y.h, .int .i64 y.s, .int .i64 y.l] ++ acs l := rfl
theorem acs_set_h : ∀ (C : List Ac) (i : Nat) (hi : i < C.length) (v : Int), (acs C).set (i*4+1) (.int .i64 v) = acs (C.set i { C[i] with h := v })
  | y :: l, 0, _, v => rfl
  | y :: l, i + 1, hi, v => by
    have ih := acs_set_h l i (by simpa using hi) v
    rw [acs_cons, List.set_append_right _ _ (by simp; omega)]
    simp only [List.length_cons, List.length_nil, List.set_cons_succ, List.getElem_cons_succ, acs_cons]
    rw [show (i + 1) * 4 + 1 - (0 + 1 + 1 + 1 + 1) = i * 4 + 1 by omega, ih]
theorem acs_set_s : ∀ (C : List Ac) (i : Nat) (hi : i < C.length) (v : Int), (acs C).set (i*4+2) (.int .i64 v) = acs (C.set i { C[i] with s := v })
  | y :: l, 0, _, v => rfl
  | y :: l, i + 1, hi, v => by
    have ih := acs_set_s l i (by simpa using hi) v
    rw [acs_cons, List.set_append_right _ _ (by simp; omega)]
    simp only [List.length_cons, List.length_nil, List.set_cons_succ, List.getElem_cons_succ, acs_cons]
    rw [show (i + 1) * 4 + 2 - (0 + 1 + 1 + 1 + 1) = i * 4 + 2 by omega, ih]
def RfPost (w : World) (q B : Nat) (r : List Ac × Int) (e : Ending) (w' : World) : Prop := e = .returned (.int .i64 r.2) ∧ RefAt w' q B r.1 ∧ Mod (· = q) w w'
/-- the cells of the account that stands at i -/
theorem RefAt.at_ {w : World} {q B : Nat} {C : List Ac} {a : Ac} {i : Nat} (h : RefAt w q B C) (hi : C[i]? = some a) : ∃ g c, w.cell? ⟨q, 0, none⟩ = some (.slice (some ⟨g, 0, none⟩) C.length c) ∧ RdA w (some ⟨g, 0, none⟩) C.length C ∧ Blk w q 36 #[.slice (some ⟨g, 0, none⟩) C.length c] ∧ i < C.length ∧
    w.cell? ⟨g, i*4, none⟩ = some (.string (txt a.n)) ∧ w.cell? ⟨g, i*4 + 1, none⟩ = some (.int .i64 a.h) ∧ w.cell? ⟨g, i*4 + 2, none⟩ = some (.int .i64 a.s) ∧ w.cell? ⟨g, i*4 + 3, none⟩ = some (.int .i64 a.l) := by
  obtain ⟨A, c, h1, h2, _⟩ := h
  have hlt : i < C.length := by
    rcases Nat.lt_or_ge i C.length with h | h
    · exact h
    · rw [List.getElem?_eq_none h] at hi; cases hi
  obtain ⟨g, cur, rfl, _⟩ := Ow.form h2 (show 0 < C.length by omega)
  obtain ⟨b, o, e, y1, y2, y3, y4⟩ := rda_get (Ow.rd h2) hlt (by omega)
  injection e with e
  injection e with e1 e2
  subst e1; subst e2
  rw [List.getElem?_eq_getElem hlt] at hi
  injection hi with hi
  rw [hi] at y1 y2 y3 y4
  rw [Nat.zero_add] at y1 y2 y3 y4
  exact ⟨g, c, h1.cell_ rfl, Ow.rd h2, h1, hlt, y1, y2, y3, y4⟩
set_option maxRecDepth 100000 in
set_option maxHeartbeats 2000000 in
theorem rget_ok (w : World) (q B : Nat) (C : List Ac) (s : List UInt8) (h : RefAt w q B C) (hl : C.length ≤ 1000) :
    Calls Try.prog 38 #[.pointer (some ⟨q, 0, none⟩), .string (txt s)] w (GetPost (getV C s) w) := by
  unfold getV
  cases hg : getC C s with
  | none =>
    have ca := Lib.hid (fun W (h : RefAt W q B C) => rat_none W q B C s h hl hg)
    replace h := Lib.hid h
    replace hg := Lib.hid hg
    go_enter Try.func38, Try.ntmps38
    go_wp2_with fail
    refine (ca.out _ (h.out.mod0 ((Mod.refl _ _).alloc _))).mono ?_
    rintro e w1 ⟨rfl, rfl⟩
    dsimp only
    go_wp2_with fail
    exact ret_acct rfl w.heap.size _ rfl (Blk.new w 46 _) rfl rfl ⟨rfl, (Mod.refl _ _).alloc _⟩
  | some a =>
    obtain ⟨i, hst, hget⟩ := stands_of hg
    have ca := Lib.hid (fun W (h : RefAt W q B C) => rat_some W q B C s i h hl hst)
    obtain ⟨g, c, hcell, hrd, hq, hi, y1, y2, y3, y4⟩ := h.at_ hget
    have hql := hq.lt
    have hgl := World.block_lt_of_cell? w _ y1
    replace h := Lib.hid h
    replace hg := Lib.hid hg
    replace hrd := Lib.hid hrd
    replace hq := Lib.hid hq
    replace hst := Lib.hid hst
    replace hget := Lib.hid hget
    go_enter Try.func38, Try.ntmps38
    go_wp2_with fail
    refine (ca.out _ (h.out.mod0 ((Mod.refl _ _).alloc _))).mono ?_
    rintro e w1 ⟨rfl, rfl⟩
    dsimp only
    go_wp2_with fail
    exact ret_acct rfl w.heap.size _ rfl (Blk.new w 46 _) rfl rfl ⟨rfl, (Mod.refl _ _).alloc _⟩
end Go.Proofs.Ytaohgefpnndjcaa
