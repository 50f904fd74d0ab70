import Derived.Test.YtimlfdihodoolaaGreatZp7
import Derived.Test.YtimlfdihodoolaaGreatZp4
import Derived.Test.YtimlfdihodoolaaGreatZp3
import Derived.Deep.RegionHeld3
/-
  log.Right.
-/
namespace Go.Proofs.YtimlfdihodoolaaGreat
set_option linter.unusedVariables false
set_option linter.unusedSimpArgs false
open Go.RowKit
def slotB (r : Rc) : Bool := decide (0 ≤ r.bal ∧ r.bal ≤ 1000000 ∧ 0 ≤ r.by_ ∧ r.by_ ≤ r.bal)
def stateB (r : Rc) : Bool :=
  if r.st = 0 then decide (r.by_ = 0) && decide (r.e = en0)
  else if r.st = 1 ∨ r.st = 2 ∨ r.st = 3 then decide (r.e.deps.length ≤ 100) && rightE r.i r.e
  else false
def rightR (r : Rc) : Bool := rightI r.i && (slotB r && stateB r)
theorem rightE_none (i : Is) : rightE i ⟨od0, true, []⟩ = rightI i := by
  unfold rightE depsB
  simp
set_option maxRecDepth 100000 in
set_option maxHeartbeats 8000000 in
theorem rightR_ok (w : World) (r : Rc) (L D : SV) (hE : EnM w r.e L D) (hL : L.n ≤ 140737488355328) (hD : D.n ≤ 140737488355328) (hk : (Lit.int .i64 r.e.o.k).wf = true) (hz : ∀ l ∈ r.e.o.legs, (txt l.n).size ≤ maxLen) :
    Calls Tryz.prog 15 #[.agg #[.int .i64 r.i.r, .int .i64 r.i.n, .int .i64 r.bal, .int .i64 r.st, .int .i64 r.by_, .int .i64 r.e.o.c, .int .i64 r.e.o.s, .int .i64 r.e.o.k, .string (txt r.e.o.acct), .string (txt r.e.o.peer), .int .i64 r.e.o.sum, .slice L.a L.n L.c, .int .i64 r.e.o.per, .int .i64 r.e.o.hold, .string (txt r.e.o.note), .bool r.e.none, .slice D.a D.n D.c]] w fun e' w' => e' = .returned (.bool (rightR r)) ∧ Mod none_ w w' := by
  have k1 := Lib.hid (fun W => rightE_ok W r.i ⟨od0, true, []⟩ ⟨none, 0, 0⟩ ⟨none, 0, 0⟩ ⟨od0_mem W, Rd.none_, Nat.le_refl _⟩ (by decide) (by decide) (by decide) (fun l h => by cases h))
  rw [rightE_none] at k1
  have k2 := Lib.hid (fun W (h : Mod none_ w W) => rightE_ok W r.i r.e L D (hE.mod0 h) hL hD hk hz)
  have k3 := Lib.hid (fun W (h : Mod none_ w W) => sameE_ok W r.e en0 L D ⟨none, 0, 0⟩ ⟨none, 0, 0⟩ (hE.mod0 h) (en0_mem W) hL hD (by decide) (by decide))
  have hlen := hE.rd.len
  have hB1 : Blk ((w.alloc (.cells #[.int .i64 r.i.r, .int .i64 r.i.n, .int .i64 r.bal, .int .i64 r.st, .int .i64 r.by_, .int .i64 r.e.o.c, .int .i64 r.e.o.s, .int .i64 r.e.o.k, .string (txt r.e.o.acct), .string (txt r.e.o.peer), .int .i64 r.e.o.sum, .slice L.a L.n L.c, .int .i64 r.e.o.per, .int .i64 r.e.o.hold, .string (txt r.e.o.note), .bool r.e.none, .slice D.a D.n D.c] 37)).alloc (.cells #[.int .i64 r.bal, .int .i64 r.st, .int .i64 r.by_, .int .i64 r.e.o.c, .int .i64 r.e.o.s, .int .i64 r.e.o.k, .string (txt r.e.o.acct), .string (txt r.e.o.peer), .int .i64 r.e.o.sum, .slice L.a L.n L.c, .int .i64 r.e.o.per, .int .i64 r.e.o.hold, .string (txt r.e.o.note), .bool r.e.none, .slice D.a D.n D.c] 35)) w.heap.size 37 #[.int .i64 r.i.r, .int .i64 r.i.n, .int .i64 r.bal, .int .i64 r.st, .int .i64 r.by_, .int .i64 r.e.o.c, .int .i64 r.e.o.s, .int .i64 r.e.o.k, .string (txt r.e.o.acct), .string (txt r.e.o.peer), .int .i64 r.e.o.sum, .slice L.a L.n L.c, .int .i64 r.e.o.per, .int .i64 r.e.o.hold, .string (txt r.e.o.note), .bool r.e.none, .slice D.a D.n D.c] := (Blk.new w _ _).alloc _
  have hB2 : Blk ((w.alloc (.cells #[.int .i64 r.i.r, .int .i64 r.i.n, .int .i64 r.bal, .int .i64 r.st, .int .i64 r.by_, .int .i64 r.e.o.c, .int .i64 r.e.o.s, .int .i64 r.e.o.k, .string (txt r.e.o.acct), .string (txt r.e.o.peer), .int .i64 r.e.o.sum, .slice L.a L.n L.c, .int .i64 r.e.o.per, .int .i64 r.e.o.hold, .string (txt r.e.o.note), .bool r.e.none, .slice D.a D.n D.c] 37)).alloc (.cells #[.int .i64 r.bal, .int .i64 r.st, .int .i64 r.by_, .int .i64 r.e.o.c, .int .i64 r.e.o.s, .int .i64 r.e.o.k, .string (txt r.e.o.acct), .string (txt r.e.o.peer), .int .i64 r.e.o.sum, .slice L.a L.n L.c, .int .i64 r.e.o.per, .int .i64 r.e.o.hold, .string (txt r.e.o.note), .bool r.e.none, .slice D.a D.n D.c] 35)) (w.heap.size + 1) 35 #[.int .i64 r.bal, .int .i64 r.st, .int .i64 r.by_, .int .i64 r.e.o.c, .int .i64 r.e.o.s, .int .i64 r.e.o.k, .string (txt r.e.o.acct), .string (txt r.e.o.peer), .int .i64 r.e.o.sum, .slice L.a L.n L.c, .int .i64 r.e.o.per, .int .i64 r.e.o.hold, .string (txt r.e.o.note), .bool r.e.none, .slice D.a D.n D.c] := heap_alloc2_new w _ _
  have hm0 := ((Mod.refl none_ w).alloc (.cells #[.int .i64 r.i.r, .int .i64 r.i.n, .int .i64 r.bal, .int .i64 r.st, .int .i64 r.by_, .int .i64 r.e.o.c, .int .i64 r.e.o.s, .int .i64 r.e.o.k, .string (txt r.e.o.acct), .string (txt r.e.o.peer), .int .i64 r.e.o.sum, .slice L.a L.n L.c, .int .i64 r.e.o.per, .int .i64 r.e.o.hold, .string (txt r.e.o.note), .bool r.e.none, .slice D.a D.n D.c] 37)).alloc (.cells #[.int .i64 r.bal, .int .i64 r.st, .int .i64 r.by_, .int .i64 r.e.o.c, .int .i64 r.e.o.s, .int .i64 r.e.o.k, .string (txt r.e.o.acct), .string (txt r.e.o.peer), .int .i64 r.e.o.sum, .slice L.a L.n L.c, .int .i64 r.e.o.per, .int .i64 r.e.o.hold, .string (txt r.e.o.note), .bool r.e.none, .slice D.a D.n D.c] 35)
  have hrr : rightR r = (rightI r.i && (slotB r && stateB r)) := rfl
  have hsl : slotB r = decide (0 ≤ r.bal ∧ r.bal ≤ 1000000 ∧ 0 ≤ r.by_ ∧ r.by_ ≤ r.bal) := rfl
  have hst : stateB r = (if r.st = 0 then decide (r.by_ = 0) && decide (r.e = en0) else if r.st = 1 ∨ r.st = 2 ∨ r.st = 3 then decide (r.e.deps.length ≤ 100) && rightE r.i r.e else false) := rfl
  replace hE := Lib.hid hE
  replace hk := Lib.hid hk
  replace hz := Lib.hid hz
  replace hlen := Lib.hid hlen
  replace hB1 := Lib.hid hB1
  replace hB2 := Lib.hid hB2
  replace hm0 := Lib.hid hm0
  replace hrr := Lib.hid hrr
  replace hsl := Lib.hid hsl
  replace hst := Lib.hid hst
  go_enter Tryz.func15, Tryz.ntmps15
  go_wp2_with fail
  refine (k1.out _).mono ?_
  rintro e' w1 ⟨rfl, hm1⟩
  dsimp only
  have hB3 := hB1.out.mod hm1 (fun h => h)
  have hB4 := hB2.out.mod hm1 (fun h => h)
  replace hm1 := hm0.out.trans hm1
  have s0 : w1.cell? ⟨w.heap.size + 1, 0, none⟩ = some (.int .i64 r.bal) := hB4.cell_ rfl
  have s1 : w1.cell? ⟨w.heap.size + 1, 1, none⟩ = some (.int .i64 r.st) := hB4.cell_ rfl
  have s2 : w1.cell? ⟨w.heap.size + 1, 2, none⟩ = some (.int .i64 r.by_) := hB4.cell_ rfl
  have s3 : w1.cell? ⟨w.heap.size + 1, 3, none⟩ = some (.int .i64 r.e.o.c) := hB4.cell_ rfl
  have s4 : w1.cell? ⟨w.heap.size + 1, 4, none⟩ = some (.int .i64 r.e.o.s) := hB4.cell_ rfl
  have s5 : w1.cell? ⟨w.heap.size + 1, 5, none⟩ = some (.int .i64 r.e.o.k) := hB4.cell_ rfl
  have s6 : w1.cell? ⟨w.heap.size + 1, 6, none⟩ = some (.string (txt r.e.o.acct)) := hB4.cell_ rfl
  have s7 : w1.cell? ⟨w.heap.size + 1, 7, none⟩ = some (.string (txt r.e.o.peer)) := hB4.cell_ rfl
  have s8 : w1.cell? ⟨w.heap.size + 1, 8, none⟩ = some (.int .i64 r.e.o.sum) := hB4.cell_ rfl
  have s9 : w1.cell? ⟨w.heap.size + 1, 9, none⟩ = some (.slice L.a L.n L.c) := hB4.cell_ rfl
  have s10 : w1.cell? ⟨w.heap.size + 1, 10, none⟩ = some (.int .i64 r.e.o.per) := hB4.cell_ rfl
  have s11 : w1.cell? ⟨w.heap.size + 1, 11, none⟩ = some (.int .i64 r.e.o.hold) := hB4.cell_ rfl
  have s12 : w1.cell? ⟨w.heap.size + 1, 12, none⟩ = some (.string (txt r.e.o.note)) := hB4.cell_ rfl
  have s13 : w1.cell? ⟨w.heap.size + 1, 13, none⟩ = some (.bool r.e.none) := hB4.cell_ rfl
  have s14 : w1.cell? ⟨w.heap.size + 1, 14, none⟩ = some (.slice D.a D.n D.c) := hB4.cell_ rfl
  have p0 : w1.cell? ⟨w.heap.size, 0, none⟩ = some (.int .i64 r.i.r) := hB3.cell_ rfl
  have p1 : w1.cell? ⟨w.heap.size, 1, none⟩ = some (.int .i64 r.i.n) := hB3.cell_ rfl
  replace hB3 := Lib.hid hB3
  replace hB4 := Lib.hid hB4
  replace hm1 := Lib.hid hm1
  cases hri : rightI r.i with
  | false =>
    have hrr2 := Lib.hid (hrr.out.trans (by rw [hri]))
    replace hri := Lib.hid hri
    go_wp2_with fail
    go_ret
    exact ⟨by rw [hrr2.out] <;> rfl, hm1.out⟩
  | true =>
    have hrr1 := hrr.out.trans (by rw [hri])
    replace hri := Lib.hid hri
    by_cases hs : 0 ≤ r.bal ∧ r.bal ≤ 1000000 ∧ 0 ≤ r.by_ ∧ r.by_ ≤ r.bal
    · rw [hsl.out, decide_eq_true hs] at hrr1
      have hrr2 := Lib.hid (hrr1.trans (show (true && (true && stateB r)) = stateB r by simp))
      clear hrr1
      have d1 : ¬ r.bal < 0 := by omega
      have d2 : ¬ 1000000 < r.bal := by omega
      have d3 : ¬ r.by_ < 0 := by omega
      have d4 : ¬ r.bal < r.by_ := by omega
      replace hs := Lib.hid hs
      by_cases h0 : r.st = 0
      · have hst1 : stateB r = (decide (r.by_ = 0) && decide (r.e = en0)) := by rw [hst.out, if_pos h0]
        rw [h0] at s1
        by_cases hb : r.by_ = 0
        · rw [decide_eq_true hb] at hst1
          rw [hb] at s2
          have d5 : ¬ r.bal < 0 := d1
          rw [hb] at d3 d4
          replace h0 := Lib.hid h0
          replace hst1 := Lib.hid hst1
          replace hb := Lib.hid hb
          go_wp2_with fail
          refine (k3.out _ hm1.out).mono ?_
          rintro e' w2 ⟨rfl, hm2⟩
          dsimp only
          have hm3 := Lib.hid (hm1.out.trans hm2)
          replace hm2 := Lib.hid hm2
          go_wp2_with fail
          go_ret
          exact ⟨by rw [hrr2.out, hst1.out] <;> rfl, hm3.out⟩
        · rw [decide_eq_false hb] at hst1
          replace h0 := Lib.hid h0
          replace hst1 := Lib.hid hst1
          go_wp2_with fail
          go_ret
          exact ⟨by rw [hrr2.out, hst1.out] <;> rfl, hm1.out⟩
      by_cases hv : r.st = 1
      · have hst1 : stateB r = (decide (r.e.deps.length ≤ 100) && rightE r.i r.e) := by rw [hst.out, if_neg h0, if_pos (by omega)]
        rw [show r.st = 1 from hv] at s1
        rw [hlen.out] at hst1
        have hst1x := hst1
        clear hst1
        replace hv := Lib.hid hv
        by_cases hl : D.n ≤ 100
        · have hl2 : (D.n : Int) ≤ 100 := by omega
          rw [decide_eq_true hl] at hst1x
          go_wp2_with fail
          with_reducible refine (k2.out _ hm1.out).mono ?_
          rintro e' w2 ⟨rfl, hm2⟩
          dsimp only
          have hm3 := Lib.hid (hm1.out.trans hm2)
          replace hm2 := Lib.hid hm2
          go_wp2_with fail
          go_ret
          exact ⟨by rw [hrr2.out, hst1x] <;> rfl, hm3.out⟩
        · have hl2 : ¬ ((D.n : Int) ≤ 100) := by omega
          rw [decide_eq_false hl] at hst1x
          go_wp2_with fail
          go_ret
          exact ⟨by rw [hrr2.out, hst1x] <;> rfl, hm1.out⟩
      have hv1 := hv
      clear hv
      by_cases hv : r.st = 2
      · have hst1 : stateB r = (decide (r.e.deps.length ≤ 100) && rightE r.i r.e) := by rw [hst.out, if_neg h0, if_pos (by omega)]
        rw [show r.st = 2 from hv] at s1
        rw [hlen.out] at hst1
        have hst1x := hst1
        clear hst1
        replace hv := Lib.hid hv
        by_cases hl : D.n ≤ 100
        · have hl2 : (D.n : Int) ≤ 100 := by omega
          rw [decide_eq_true hl] at hst1x
          go_wp2_with fail
          with_reducible refine (k2.out _ hm1.out).mono ?_
          rintro e' w2 ⟨rfl, hm2⟩
          dsimp only
          have hm3 := Lib.hid (hm1.out.trans hm2)
          replace hm2 := Lib.hid hm2
          go_wp2_with fail
          go_ret
          exact ⟨by rw [hrr2.out, hst1x] <;> rfl, hm3.out⟩
        · have hl2 : ¬ ((D.n : Int) ≤ 100) := by omega
          rw [decide_eq_false hl] at hst1x
          go_wp2_with fail
          go_ret
          exact ⟨by rw [hrr2.out, hst1x] <;> rfl, hm1.out⟩
      have hv2 := hv
      clear hv
      by_cases hv : r.st = 3
      · have hst1 : stateB r = (decide (r.e.deps.length ≤ 100) && rightE r.i r.e) := by rw [hst.out, if_neg h0, if_pos (by omega)]
        rw [show r.st = 3 from hv] at s1
        rw [hlen.out] at hst1
        have hst1x := hst1
        clear hst1
        replace hv := Lib.hid hv
        by_cases hl : D.n ≤ 100
        · have hl2 : (D.n : Int) ≤ 100 := by omega
          rw [decide_eq_true hl] at hst1x
          go_wp2_with fail
          with_reducible refine (k2.out _ hm1.out).mono ?_
          rintro e' w2 ⟨rfl, hm2⟩
          dsimp only
          have hm3 := Lib.hid (hm1.out.trans hm2)
          replace hm2 := Lib.hid hm2
          go_wp2_with fail
          go_ret
          exact ⟨by rw [hrr2.out, hst1x] <;> rfl, hm3.out⟩
        · have hl2 : ¬ ((D.n : Int) ≤ 100) := by omega
          rw [decide_eq_false hl] at hst1x
          go_wp2_with fail
          go_ret
          exact ⟨by rw [hrr2.out, hst1x] <;> rfl, hm1.out⟩
      have hv3 := hv
      clear hv
      have hst1 : stateB r = false := by rw [hst.out, if_neg h0, if_neg (by omega)]
      replace hst1 := Lib.hid hst1
      go_wp2_with fail
      go_ret
      exact ⟨by rw [hrr2.out, hst1.out] <;> rfl, hm1.out⟩
    · rw [hsl.out, decide_eq_false hs] at hrr1
      have hrr2 := Lib.hid (hrr1.trans (show (true && (false && stateB r)) = false by simp))
      clear hrr1
      go_wp2_with fail
      all_goals
        first
          | (go_ret; exact ⟨by rw [hrr2.out] <;> rfl, hm1.out⟩)
          | (exfalso; omega)
end Go.Proofs.YtimlfdihodoolaaGreat
/-
  The plain codec: what the readers of orders, records and messages read, and what is written; there and back. No condition.
-/
namespace Go.Proofs.YtimlfdihodoolaaGreat
set_option linter.unusedVariables false
set_option linter.unusedSimpArgs false
abbrev RS := Nat × List UInt8
abbrev PR (α : Type) := RS → α × RS
def bd {α β : Type} (p : PR α) (f : α → PR β) : PR β := fun s => f (p s).1 (p s).2
def pu {α : Type} (x : α) : PR α := fun s => (x, s)
def qn : PR Int := fun s => rn s.2 s.1
def qg (lo hi : Int) : PR Int := fun s => rg lo hi s.2 s.1
def qt (most : Int) : PR (List UInt8) := fun s => rt most s.2 s.1
def nb (n : Int) : List UInt8 := vb (zig n)
def in64 (n : Int) : Prop := -9223372036854775808 ≤ n ∧ n ≤ 9223372036854775807
theorem tri_ {α β γ : Type} (x : α × β × γ) : ∃ p e t, x = (p, e, t) := ⟨x.1, x.2.1, x.2.2, rfl⟩
theorem duo_ {α β : Type} (x : α × β) : ∃ p e, x = (p, e) := ⟨x.1, x.2, rfl⟩
theorem nb_len (n : Int) : (nb n).length ≤ 10 := vb_len _
theorem txtB_len (s : List UInt8) : (txtB s).length ≤ s.length + 10 := by
  unfold txtB; rw [List.length_append]; have := vb_len (zig (s.length : Int)); omega
theorem bd_inv {α β : Type} {p : PR α} {f : α → PR β} {s : RS} {v : β} {e : Nat} {t : List UInt8} (h : bd p f s = (v, e, t)) : ∃ a s', p s = (a, s') ∧ f a s' = (v, e, t) := ⟨_, _, rfl, h⟩
theorem bd_of {α β : Type} {p : PR α} {f : α → PR β} {s s' : RS} {a : α} (h : p s = (a, s')) : bd p f s = f a s' := by unfold bd; rw [h]
theorem qn_exact {s : RS} {v : Int} {t : List UInt8} (h : qn s = (v, 0, t)) : s = (0, nb v ++ t) ∧ in64 v := by
  obtain ⟨e, l⟩ := s
  unfold qn at h
  dsimp only at h
  have he : e = 0 := by
    rcases Nat.eq_zero_or_pos e with h1 | h1
    · exact h1
    · unfold rn at h
      rw [if_pos (by omega)] at h
      simp only [Prod.mk.injEq] at h
      omega
  subst he
  obtain ⟨k, _, h2, rfl, h4, h5, h6, _⟩ := rn_yes h
  refine ⟨?_, h5, h6⟩
  unfold nb
  rw [← h4, List.take_append_drop]
theorem qn_reads {v : Int} (t : List UInt8) (h : in64 v) : qn (0, nb v ++ t) = (v, 0, t) := rn_of h.1 h.2 rfl
theorem qg_exact {lo hi : Int} {s : RS} {v : Int} {t : List UInt8} (h : qg lo hi s = (v, 0, t)) : s = (0, nb v ++ t) ∧ lo ≤ v ∧ v ≤ hi := by
  have hb := rg_bound h
  refine ⟨?_, hb⟩
  have : qn s = (v, 0, t) := by
    unfold qg rg at h
    unfold qn
    by_cases h1 : (rn s.2 s.1).2.1 ≠ 0
    · rw [if_pos h1] at h
      exact absurd (congrArg (·.2.1) h) h1
    · rw [if_neg h1] at h
      by_cases h2 : (rn s.2 s.1).1 < lo ∨ hi < (rn s.2 s.1).1
      · rw [if_pos h2] at h; simp at h
      · rw [if_neg h2] at h; exact h
  exact (qn_exact this).1
theorem qg_reads {lo hi v : Int} (t : List UInt8) (h1 : lo ≤ v) (h2 : v ≤ hi) (h3 : in64 v) : qg lo hi (0, nb v ++ t) = (v, 0, t) := by
  have := qn_reads t h3
  unfold qn at this
  unfold qg rg
  dsimp only at this ⊢
  rw [this]
  dsimp only
  rw [if_neg (by omega), if_neg (by omega)]
theorem qt_exact {most : Int} {s : RS} {v t : List UInt8} (h : qt most s = (v, 0, t)) : s = (0, txtB v ++ t) ∧ (v.length : Int) ≤ most := by
  unfold qt rt at h
  obtain ⟨k, e, r, hr⟩ : ∃ k e r, rg 0 most s.2 s.1 = (k, e, r) := ⟨_, _, _, rfl⟩
  rw [hr] at h
  dsimp only at h
  by_cases h1 : e ≠ 0
  · rw [if_pos h1] at h; simp only [Prod.mk.injEq] at h; omega
  · rw [if_neg h1] at h
    obtain rfl : e = 0 := by omega
    by_cases h2 : (r.length : Int) < k
    · rw [if_pos h2] at h; simp at h
    · rw [if_neg h2] at h
      obtain ⟨h3, h4, h5⟩ := qg_exact (s := s) hr
      simp only [Prod.mk.injEq, true_and] at h
      obtain ⟨rfl, rfl⟩ := h
      have hl : (r.take k.toNat).length = k.toNat := by rw [List.length_take]; omega
      refine ⟨?_, by omega⟩
      rw [h3]
      unfold txtB
      rw [hl, show ((k.toNat : Nat) : Int) = k by omega, List.append_assoc, List.take_append_drop]
      rfl
theorem qt_reads {most : Int} {v : List UInt8} (t : List UInt8) (h : (v.length : Int) ≤ most) (hm : most ≤ 1000000) : qt most (0, txtB v ++ t) = (v, 0, t) := by
  have := qg_reads (lo := 0) (hi := most) (v := (v.length : Int)) (v ++ t) (by omega) h ⟨by omega, by omega⟩
  unfold qg at this
  unfold qt rt txtB
  dsimp only at this ⊢
  rw [List.append_assoc]
  unfold nb at this
  rw [this]
  dsimp only
  rw [if_neg (by omega), if_neg (by rw [List.length_append]; omega)]
  simp
/-- so many, one behind the other -/
def rdList {α : Type} (p : PR α) : Nat → PR (List α)
  | 0 => pu []
  | n + 1 => bd p fun x => bd (rdList p n) fun xs => pu (x :: xs)
theorem rdList_exact {α : Type} {p : PR α} {enc : α → List UInt8} {ok : α → Prop} (hp : ∀ s v t, p s = (v, 0, t) → s = (0, enc v ++ t) ∧ ok v) :
    ∀ (n : Nat) (s : RS) (vs : List α) (t : List UInt8), rdList p n s = (vs, 0, t) → s = (0, vs.flatMap enc ++ t) ∧ vs.length = n ∧ ∀ v ∈ vs, ok v := by
  intro n
  induction n with
  | zero =>
    intro s vs t h
    simp only [rdList, pu, Prod.mk.injEq] at h
    obtain ⟨rfl, h⟩ := h
    exact ⟨by rw [h]; simp, rfl, fun v hv => by cases hv⟩
  | succ n ih =>
    intro s vs t h
    obtain ⟨x, s1, h1, h⟩ := bd_inv h
    obtain ⟨xs, s2, h2, h⟩ := bd_inv h
    simp only [pu, Prod.mk.injEq] at h
    obtain ⟨rfl, rfl⟩ := h
    obtain ⟨rfl, h3, h4⟩ := ih _ _ _ h2
    obtain ⟨rfl, h5⟩ := hp _ _ _ h1
    refine ⟨by simp, by simp [h3], fun v hv => ?_⟩
    rcases List.mem_cons.1 hv with rfl | hv
    · exact h5
    · exact h4 v hv
theorem rdList_reads {α : Type} {p : PR α} {enc : α → List UInt8} {ok : α → Prop} (hp : ∀ v t, ok v → p (0, enc v ++ t) = (v, 0, t)) :
    ∀ (vs : List α) (t : List UInt8), (∀ v ∈ vs, ok v) → rdList p vs.length (0, vs.flatMap enc ++ t) = (vs, 0, t) := by
  intro vs
  induction vs with
  | nil => intro t _; rfl
  | cons x xs ih =>
    intro t h
    simp only [List.length_cons, rdList, List.flatMap_cons, List.append_assoc]
    rw [bd_of (hp x _ (h x (by simp))), bd_of (ih t fun v hv => h v (by simp [hv]))]
    rfl
/-- one step of a loop that reads a list -/
theorem rdList_step {α : Type} {p : PR α} {n : Nat} {s s1 r2 : RS} {x : α} {pre all : List α} {rest : List α} (h1 : p s = (x, s1)) (h2 : rdList p (n + 1) s = (rest, r2)) (h3 : pre ++ rest = all) :
    ∃ rest', rdList p n s1 = (rest', r2) ∧ (pre ++ [x]) ++ rest' = all := by
  unfold rdList at h2
  rw [bd_of h1] at h2
  obtain ⟨xs, s2, h4⟩ : ∃ xs s2, rdList p n s1 = (xs, s2) := ⟨_, _, rfl⟩
  rw [bd_of h4] at h2
  simp only [pu, Prod.mk.injEq] at h2
  obtain ⟨rfl, rfl⟩ := h2
  exact ⟨xs, h4, by rw [← h3]; simp⟩

/- ORDERS -/
def legB (l : Lg) : List UInt8 := txtB l.n ++ nb l.x
def orderB (o : Od) : List UInt8 :=
  nb o.c ++ (nb o.s ++ (nb o.k ++ (txtB o.acct ++ (txtB o.peer ++ (nb o.sum ++ (nb (o.legs.length : Int) ++ (o.legs.flatMap legB ++ (nb o.per ++ (nb o.hold ++ txtB o.note)))))))))
def rdLeg : PR Lg := bd (qt 8) fun n => bd qn fun x => pu ⟨n, x⟩
def okLg (l : Lg) : Prop := l.n.length ≤ 8 ∧ in64 l.x
theorem rdLeg_exact (s : RS) (v : Lg) (t : List UInt8) (h : rdLeg s = (v, 0, t)) : s = (0, legB v ++ t) ∧ okLg v := by
  unfold rdLeg at h
  obtain ⟨n, s1, h1, h⟩ := bd_inv h
  obtain ⟨x, s2, h2, h⟩ := bd_inv h
  simp only [pu, Prod.mk.injEq] at h
  obtain ⟨rfl, rfl⟩ := h
  obtain ⟨rfl, h3⟩ := qn_exact h2
  obtain ⟨rfl, h4⟩ := qt_exact h1
  exact ⟨by unfold legB; simp, by dsimp only; omega, h3⟩
theorem rdLeg_reads (v : Lg) (t : List UInt8) (h : okLg v) : rdLeg (0, legB v ++ t) = (v, 0, t) := by
  unfold rdLeg legB
  rw [List.append_assoc, bd_of (qt_reads _ (by have := h.1; omega) (by omega)), bd_of (qn_reads _ h.2)]
  rfl
def rdO : PR Od := bd (qg 0 9) fun c => bd (qg 0 999) fun s => bd (qg 0 7) fun k => bd (qt 8) fun a => bd (qt 8) fun p => bd qn fun x => bd (qg 0 6) fun n =>
  bd (rdList rdLeg n.toNat) fun ls => bd (qg 0 1000) fun per => bd (qg 0 9999) fun hold => bd (qt 20) fun note => pu ⟨c, s, k, a, p, x, ls, per, hold, note⟩
def okOd (o : Od) : Prop := (0 ≤ o.c ∧ o.c ≤ 9) ∧ (0 ≤ o.s ∧ o.s ≤ 999) ∧ (0 ≤ o.k ∧ o.k ≤ 7) ∧ o.acct.length ≤ 8 ∧ o.peer.length ≤ 8 ∧ in64 o.sum ∧ o.legs.length ≤ 6 ∧ (∀ l ∈ o.legs, okLg l) ∧ (0 ≤ o.per ∧ o.per ≤ 1000) ∧ (0 ≤ o.hold ∧ o.hold ≤ 9999) ∧ o.note.length ≤ 20
theorem in64_of {lo hi v : Int} (h1 : lo ≤ v) (h2 : v ≤ hi) (h3 : -9223372036854775808 ≤ lo) (h4 : hi ≤ 9223372036854775807) : in64 v := ⟨by omega, by omega⟩
theorem rdO_exact (s : RS) (o : Od) (t : List UInt8) (h : rdO s = (o, 0, t)) : s = (0, orderB o ++ t) ∧ okOd o := by
  unfold rdO at h
  obtain ⟨c, s1, h1, h⟩ := bd_inv h
  obtain ⟨q, s2, h2, h⟩ := bd_inv h
  obtain ⟨k, s3, h3, h⟩ := bd_inv h
  obtain ⟨a, s4, h4, h⟩ := bd_inv h
  obtain ⟨p, s5, h5, h⟩ := bd_inv h
  obtain ⟨x, s6, h6, h⟩ := bd_inv h
  obtain ⟨n, s7, h7, h⟩ := bd_inv h
  obtain ⟨ls, s8, h8, h⟩ := bd_inv h
  obtain ⟨per, s9, h9, h⟩ := bd_inv h
  obtain ⟨hold, s10, h10, h⟩ := bd_inv h
  obtain ⟨note, s11, h11, h⟩ := bd_inv h
  simp only [pu, Prod.mk.injEq] at h
  obtain ⟨rfl, rfl⟩ := h
  obtain ⟨rfl, k11⟩ := qt_exact h11
  obtain ⟨rfl, k10⟩ := qg_exact h10
  obtain ⟨rfl, k9⟩ := qg_exact h9
  obtain ⟨rfl, k8, k8'⟩ := rdList_exact rdLeg_exact _ _ _ _ h8
  obtain ⟨rfl, k7⟩ := qg_exact h7
  obtain ⟨rfl, k6⟩ := qn_exact h6
  obtain ⟨rfl, k5⟩ := qt_exact h5
  obtain ⟨rfl, k4⟩ := qt_exact h4
  obtain ⟨rfl, k3⟩ := qg_exact h3
  obtain ⟨rfl, k2⟩ := qg_exact h2
  obtain ⟨rfl, k1⟩ := qg_exact h1
  refine ⟨?_, k1, k2, k3, by dsimp only; omega, by dsimp only; omega, k6, by dsimp only; omega, k8', k9, k10, by dsimp only; omega⟩
  have e : ((ls.length : Nat) : Int) = n := by rw [k8]; omega
  unfold orderB
  dsimp only
  rw [e]
  simp only [List.append_assoc]
theorem rdO_reads (o : Od) (t : List UInt8) (h : okOd o) : rdO (0, orderB o ++ t) = (o, 0, t) := by
  obtain ⟨h1, h2, h3, h4, h5, h6, h7, h8, h9, h10, h11⟩ := h
  unfold rdO orderB
  simp only [List.append_assoc]
  rw [bd_of (qg_reads _ h1.1 h1.2 (in64_of h1.1 h1.2 (by decide) (by decide))), bd_of (qg_reads _ h2.1 h2.2 (in64_of h2.1 h2.2 (by decide) (by decide))), bd_of (qg_reads _ h3.1 h3.2 (in64_of h3.1 h3.2 (by decide) (by decide))),
    bd_of (qt_reads _ (by omega) (by omega)), bd_of (qt_reads _ (by omega) (by omega)), bd_of (qn_reads _ h6), bd_of (qg_reads _ (by omega) (by omega) ⟨by omega, by omega⟩)]
  rw [show ((o.legs.length : Int)).toNat = o.legs.length by omega, bd_of (rdList_reads rdLeg_reads _ _ h8),
    bd_of (qg_reads _ h9.1 h9.2 (in64_of h9.1 h9.2 (by decide) (by decide))), bd_of (qg_reads _ h10.1 h10.2 (in64_of h10.1 h10.2 (by decide) (by decide))), bd_of (qt_reads _ (by omega) (by omega))]
  rfl
/-- order.Read -/
def rdOrd (b : List UInt8) : Od × Nat :=
  if dn (rdO (0, b)).2.2 (rdO (0, b)).2.1 ≠ 0 ∨ rightO (rdO (0, b)).1 = false then (od0, 3) else ((rdO (0, b)).1, 0)
theorem dn_zero {l : List UInt8} {e : Nat} : dn l e = 0 ↔ e = 0 ∧ l = [] := by
  unfold dn
  by_cases h : e = 0
  · rw [if_neg (by omega)]
    by_cases h2 : 0 < l.length
    · rw [if_pos h2]
      constructor
      · intro h; omega
      · rintro ⟨_, rfl⟩; simp at h2
    · rw [if_neg h2]
      exact ⟨fun _ => ⟨h, List.eq_nil_of_length_eq_zero (by omega)⟩, fun _ => rfl⟩
  · rw [if_pos h]
    exact ⟨fun h1 => absurd h1 h, fun h1 => absurd h1.1 h⟩
theorem nameB_len {l : List UInt8} (h : nameB l = true) : l.length ≤ 8 := by
  unfold nameB at h
  simp only [Bool.and_eq_true, decide_eq_true_eq] at h
  exact h.2
/-- what is in the machine's numbers -/
def numsO (o : Od) : Prop := in64 o.c ∧ in64 o.s ∧ in64 o.k ∧ in64 o.sum ∧ (∀ l ∈ o.legs, in64 l.x) ∧ in64 o.per ∧ in64 o.hold
theorem legsB_ok {ls : List Lg} (h : legsB ls = true) (hn : ∀ l ∈ ls, in64 l.x) : ls.length ≤ 6 ∧ ∀ l ∈ ls, okLg l := by
  unfold legsB at h
  simp only [Bool.and_eq_true, decide_eq_true_eq, List.all_eq_true] at h
  refine ⟨h.2, fun l hl => ⟨?_, hn l hl⟩⟩
  have := h.1.1.1 l hl
  unfold okLeg at this
  rw [Bool.and_eq_true] at this
  exact nameB_len this.1
theorem rightO_okOd {o : Od} (h : rightO o = true) (hn : in64 o.sum ∧ ∀ l ∈ o.legs, in64 l.x) : okOd o := by
  unfold rightO at h
  rw [Bool.and_eq_true] at h
  obtain ⟨h1, h2⟩ := h
  unfold idB at h1
  rw [decide_eq_true_eq] at h1
  unfold kindB at h2
  have z64 : in64 0 := ⟨by omega, by omega⟩
  split at h2
  · rename_i hk
    rw [Bool.and_eq_true, decide_eq_true_eq] at h2
    obtain ⟨he, hf⟩ := h2
    unfold fits1 at hf
    simp only [Bool.and_eq_true, decide_eq_true_eq] at hf
    have hnm := nameB_len hf.1
    rw [he] at hn ⊢
    exact ⟨⟨h1.1, h1.2.1⟩, ⟨by dsimp only [bare1]; omega, h1.2.2.2⟩, ⟨by dsimp only [bare1]; omega, by dsimp only [bare1]; omega⟩, hnm, by simp [bare1], hn.1, by simp [bare1], by simp [bare1], by simp [bare1], by simp [bare1], by simp [bare1]⟩
  · split at h2
    · rename_i hk
      rw [Bool.and_eq_true, decide_eq_true_eq] at h2
      obtain ⟨he, hf⟩ := h2
      unfold fits2 periodB at hf
      simp only [Bool.and_eq_true, decide_eq_true_eq] at hf
      obtain ⟨hl1, hl2⟩ := legsB_ok hf.1 hn.2
      obtain ⟨hp, hno⟩ := hf.2
      rw [he]
      exact ⟨⟨h1.1, h1.2.1⟩, ⟨by dsimp only [bare2]; omega, h1.2.2.2⟩, ⟨by dsimp only [bare2]; omega, by dsimp only [bare2]; omega⟩, by simp [bare2], by simp [bare2], z64, hl1, hl2, by dsimp only [bare2]; omega, by simp [bare2], hno⟩
    · split at h2
      · rename_i hk
        rw [Bool.and_eq_true, decide_eq_true_eq] at h2
        obtain ⟨he, hf⟩ := h2
        unfold fits3 at hf
        simp only [Bool.and_eq_true, decide_eq_true_eq] at hf
        have hnm := nameB_len hf.1
        rw [he] at hn ⊢
        exact ⟨⟨h1.1, h1.2.1⟩, ⟨by dsimp only [bare3]; omega, h1.2.2.2⟩, ⟨by dsimp only [bare3]; omega, by dsimp only [bare3]; omega⟩, hnm, by simp [bare3], hn.1, by simp [bare3], by simp [bare3], by simp [bare3], by simp [bare3], by simp [bare3]⟩
      · split at h2
        · rename_i hk
          rw [Bool.and_eq_true, decide_eq_true_eq] at h2
          obtain ⟨he, hf⟩ := h2
          unfold fits4 heldB periodB at hf
          simp only [Bool.and_eq_true, decide_eq_true_eq] at hf
          have hnm := nameB_len hf.1
          have hpm := nameB_len hf.2.1
          obtain ⟨_, _, hh, hp⟩ := hf.2.2
          rw [he] at hn ⊢
          exact ⟨⟨h1.1, h1.2.1⟩, ⟨by dsimp only [bare4]; omega, h1.2.2.2⟩, ⟨by dsimp only [bare4]; omega, by dsimp only [bare4]; omega⟩, hnm, hpm, hn.1, by simp [bare4], by simp [bare4], by dsimp only [bare4]; omega, by dsimp only [bare4]; omega, by simp [bare4]⟩
        · split at h2
          · rename_i hk
            rw [Bool.and_eq_true, decide_eq_true_eq] at h2
            obtain ⟨he, hf⟩ := h2
            unfold fits5 heldB at hf
            simp only [Bool.and_eq_true, decide_eq_true_eq] at hf
            have hnm := nameB_len hf.1
            have hh := hf.2
            rw [he]
            exact ⟨⟨h1.1, h1.2.1⟩, ⟨by dsimp only [bare5]; omega, h1.2.2.2⟩, ⟨by dsimp only [bare5]; omega, by dsimp only [bare5]; omega⟩, hnm, by simp [bare5], z64, by simp [bare5], by simp [bare5], by simp [bare5], by dsimp only [bare5]; omega, by simp [bare5]⟩
          · split at h2
            · rename_i hk
              rw [Bool.and_eq_true, decide_eq_true_eq] at h2
              obtain ⟨he, hf⟩ := h2
              unfold fits6 periodB at hf
              simp only [decide_eq_true_eq] at hf
              rw [he]
              exact ⟨⟨h1.1, h1.2.1⟩, ⟨by dsimp only [bare6]; omega, h1.2.2.2⟩, ⟨by dsimp only [bare6]; omega, by dsimp only [bare6]; omega⟩, by simp [bare6], by simp [bare6], z64, by simp [bare6], by simp [bare6], by dsimp only [bare6]; omega, by simp [bare6], by simp [bare6]⟩
            · split at h2
              · rename_i hk
                rw [Bool.and_eq_true, decide_eq_true_eq] at h2
                obtain ⟨he, hf⟩ := h2
                have hnm := nameB_len hf
                rw [he]
                exact ⟨⟨h1.1, h1.2.1⟩, ⟨by dsimp only [bare7]; omega, h1.2.2.2⟩, ⟨by dsimp only [bare7]; omega, by dsimp only [bare7]; omega⟩, hnm, by simp [bare7], z64, by simp [bare7], by simp [bare7], by simp [bare7], by simp [bare7], by simp [bare7]⟩
              · cases h2
theorem flat_le {α : Type} (f : α → List UInt8) (k : Nat) : ∀ (xs : List α), (∀ x ∈ xs, (f x).length ≤ k) → (xs.flatMap f).length ≤ xs.length * k := by
  intro xs
  induction xs with
  | nil => intro _; simp
  | cons x xs ih =>
    intro h
    rw [List.flatMap_cons, List.length_append, List.length_cons, Nat.succ_mul]
    have := ih fun y hy => h y (by simp [hy])
    have := h x (by simp)
    omega
theorem orderB_len {o : Od} (h : okOd o) : (orderB o).length ≤ 400 := by
  obtain ⟨_, _, _, h4, h5, _, h7, h8, _, _, h11⟩ := h
  have hl := flat_le legB 28 o.legs fun l hl => by
    have := (h8 l hl).1
    have := txtB_len l.n
    have := nb_len l.x
    unfold legB
    rw [List.length_append]; omega
  have := nb_len o.c
  have := nb_len o.s
  have := nb_len o.k
  have := nb_len o.sum
  have := nb_len (o.legs.length : Int)
  have := nb_len o.per
  have := nb_len o.hold
  have := txtB_len o.acct
  have := txtB_len o.peer
  have := txtB_len o.note
  unfold orderB
  simp only [List.length_append]
  omega
/-- There and back. -/
theorem rdOrd_of {o : Od} (h : rightO o = true) (hn : in64 o.sum ∧ ∀ l ∈ o.legs, in64 l.x) : rdOrd (orderB o) = (o, 0) := by
  have := rdO_reads o [] (rightO_okOd h hn)
  rw [List.append_nil] at this
  unfold rdOrd
  rw [this]
  dsimp only
  rw [if_neg]
  rw [h, show dn [] 0 = 0 from rfl]
  simp
/-- Just these bytes. -/
theorem rdOrd_yes {b : List UInt8} {o : Od} (h : rdOrd b = (o, 0)) : rightO o = true ∧ b = orderB o ∧ okOd o := by
  unfold rdOrd at h
  obtain ⟨p, e, t, hr⟩ : ∃ p e t, rdO (0, b) = (p, e, t) := tri_ _
  rw [hr] at h
  dsimp only at h
  by_cases h1 : dn t e ≠ 0 ∨ rightO p = false
  · rw [if_pos h1] at h; simp at h
  · rw [if_neg h1] at h
    simp only [Prod.mk.injEq, and_true] at h
    subst h
    have h2 : dn t e = 0 := Classical.byContradiction fun hh => h1 (.inl hh)
    obtain ⟨rfl, rfl⟩ := dn_zero.1 h2
    obtain ⟨h3, h4⟩ := rdO_exact _ _ _ hr
    simp only [Prod.mk.injEq, List.append_nil, true_and] at h3
    refine ⟨?_, h3, h4⟩
    cases hq : rightO p with
    | true => rfl
    | false => exact absurd (.inr hq) h1
theorem rdOrd_two (b : List UInt8) : (rdOrd b).2 = 0 ∨ rdOrd b = (od0, 3) := by
  unfold rdOrd
  split
  · exact .inr rfl
  · exact .inl rfl
end Go.Proofs.YtimlfdihodoolaaGreat
/-
  post.Right.
-/
namespace Go.Proofs.YtimlfdihodoolaaGreat
set_option linter.unusedVariables false
set_option linter.unusedSimpArgs false
open Go.RowKit
theorem record_size : (Tryz.prog.info? 37).map (·.size) = some 17 := by kernel_rfl
theorem ret_record {fn : Func} {p : Tmp} (h : fn.results = #[.cell p 37]) {a : Act} {w : World} {R : Ending → World → Prop} (g : Nat) (cs : Array Value) (hp : a.tmps.getD p undef = .pointer (some ⟨g, 0, none⟩))
    (hg : Blk w g 37 cs) (hs : cs.size = 17) (hd : a.defers = []) (hR : R (.returned (.agg cs)) w) : bodyPost Tryz.prog fn R .ret a w :=
  bodyPost_ret (results_cell_row h a.tmps w g _ cs _ _ hp hg Tryz.underlying37 rfl (by rw [hs]; exact record_size)) hd hR
def bareR (r : Rc) : Rc := ⟨r.i, 0, 3, 0, r.e⟩
def endsB (m : Mg) : Bool := decide (0 ≤ m.frm ∧ m.frm ≤ 6 ∧ 0 ≤ m.to ∧ m.to ≤ 6 ∧ ¬ m.frm = m.to)
def kindMB (m : Mg) : Bool := decide (1 ≤ m.kind ∧ m.kind ≤ 9)
def plainB (m : Mg) : Bool := decide (m.r.st = 0 ∧ m.r.by_ = 0 ∧ 0 ≤ m.r.bal ∧ m.r.bal ≤ 1000000)
def rightM (m : Mg) : Bool := endsB m && (kindMB m && (rightR m.r || (plainB m && rightR (bareR m.r))))
end Go.Proofs.YtimlfdihodoolaaGreat
/-
  The plain codec of records and messages; there and back. No condition.
-/
namespace Go.Proofs.YtimlfdihodoolaaGreat
set_option linter.unusedVariables false
set_option linter.unusedSimpArgs false
/- RECORDS -/
def isB (i : Is) : List UInt8 := nb i.r ++ nb i.n
def rdIs : PR Is := bd (qg 0 6) fun r => bd (qg 0 10000) fun n => pu ⟨r, n⟩
def okIs (i : Is) : Prop := (0 ≤ i.r ∧ i.r ≤ 6) ∧ (0 ≤ i.n ∧ i.n ≤ 10000)
theorem rdIs_exact (s : RS) (v : Is) (t : List UInt8) (h : rdIs s = (v, 0, t)) : s = (0, isB v ++ t) ∧ okIs v := by
  unfold rdIs at h
  obtain ⟨r, s1, h1, h⟩ := bd_inv h
  obtain ⟨n, s2, h2, h⟩ := bd_inv h
  simp only [pu, Prod.mk.injEq] at h
  obtain ⟨rfl, rfl⟩ := h
  obtain ⟨rfl, h3⟩ := qg_exact h2
  obtain ⟨rfl, h4⟩ := qg_exact h1
  exact ⟨by unfold isB; simp, h4, h3⟩
theorem rdIs_reads (v : Is) (t : List UInt8) (h : okIs v) : rdIs (0, isB v ++ t) = (v, 0, t) := by
  unfold rdIs isB
  rw [List.append_assoc, bd_of (qg_reads _ h.1.1 h.1.2 (in64_of h.1.1 h.1.2 (by decide) (by decide))), bd_of (qg_reads _ h.2.1 h.2.2 (in64_of h.2.1 h.2.2 (by decide) (by decide)))]
  rfl
/-- an entry: it, and an error -/
def rdEnO (e : Nat) (o : Od) : PR (En × Nat) := if e ≠ 0 then pu (⟨od0, false, []⟩, e) else bd (qg 0 100) fun k => bd (rdList rdIs k.toNat) fun ds => pu (⟨o, false, ds⟩, 0)
def rdEn : PR (En × Nat) := bd (qg 0 1) fun x => if x = 1 then bd (qg 0 100) fun k => bd (rdList rdIs k.toNat) fun ds => pu (⟨od0, true, ds⟩, 0) else bd (qt 1000) fun s => rdEnO (rdOrd s).2 (rdOrd s).1
def entB (e : En) : List UInt8 := (if e.none then nb 1 else nb 0 ++ txtB (orderB e.o)) ++ (nb (e.deps.length : Int) ++ e.deps.flatMap isB)
def okEn (e : En) : Prop := (if e.none then e.o = od0 else rightO e.o = true ∧ okOd e.o) ∧ e.deps.length ≤ 100 ∧ ∀ d ∈ e.deps, okIs d
theorem rdEn_exact (s : RS) (v : En) (t : List UInt8) (h : rdEn s = ((v, 0), 0, t)) : s = (0, entB v ++ t) ∧ okEn v := by
  unfold rdEn at h
  obtain ⟨x, s1, h1, h⟩ := bd_inv h
  by_cases hx : x = 1
  · rw [if_pos hx] at h
    obtain ⟨k, s2, h2, h⟩ := bd_inv h
    obtain ⟨ds, s3, h3, h⟩ := bd_inv h
    simp only [pu, Prod.mk.injEq] at h
    obtain ⟨⟨rfl, _⟩, rfl⟩ := h
    obtain ⟨rfl, k3, k3'⟩ := rdList_exact rdIs_exact _ _ _ _ h3
    obtain ⟨rfl, k2⟩ := qg_exact h2
    obtain ⟨rfl, k1⟩ := qg_exact h1
    have e : ((ds.length : Nat) : Int) = k := by rw [k3]; omega
    refine ⟨?_, by simp, by dsimp only; omega, k3'⟩
    unfold entB
    dsimp only
    rw [e, hx]
    simp
  · rw [if_neg hx] at h
    obtain ⟨b, s2, h2, h⟩ := bd_inv h
    obtain ⟨o, f, ho⟩ : ∃ o f, rdOrd b = (o, f) := duo_ _
    rw [ho] at h
    dsimp only at h
    unfold rdEnO at h
    by_cases hf : f ≠ 0
    · rw [if_pos hf] at h
      simp only [pu, Prod.mk.injEq] at h
      omega
    · rw [if_neg hf] at h
      obtain rfl : f = 0 := by omega
      obtain ⟨k, s3, h3, h⟩ := bd_inv h
      obtain ⟨ds, s4, h4, h⟩ := bd_inv h
      simp only [pu, Prod.mk.injEq] at h
      obtain ⟨⟨rfl, _⟩, rfl⟩ := h
      obtain ⟨rfl, k4, k4'⟩ := rdList_exact rdIs_exact _ _ _ _ h4
      obtain ⟨rfl, k3⟩ := qg_exact h3
      obtain ⟨rfl, k2⟩ := qt_exact h2
      obtain ⟨rfl, k1⟩ := qg_exact h1
      obtain ⟨r1, rfl, r3⟩ := rdOrd_yes ho
      have e : ((ds.length : Nat) : Int) = k := by rw [k4]; omega
      obtain rfl : x = 0 := by omega
      refine ⟨?_, by simp; exact ⟨r1, r3⟩, by dsimp only; omega, k4'⟩
      unfold entB
      dsimp only
      rw [e]
      simp
theorem rdEn_reads (v : En) (t : List UInt8) (h : okEn v) (hn : in64 v.o.sum ∧ ∀ l ∈ v.o.legs, in64 l.x) : rdEn (0, entB v ++ t) = ((v, 0), 0, t) := by
  obtain ⟨o, nn, ds⟩ := v
  obtain ⟨h1, h2, h3⟩ := h
  dsimp only at h1 h2 h3 hn
  cases nn with
  | true =>
    simp only [if_true] at h1
    subst h1
    unfold rdEn entB
    dsimp only
    simp only [if_true, List.append_assoc]
    rw [bd_of (qg_reads _ (by omega) (by omega) ⟨by omega, by omega⟩), if_pos rfl, bd_of (qg_reads _ (by omega) (by omega) ⟨by omega, by omega⟩), show ((ds.length : Int)).toNat = ds.length by omega, bd_of (rdList_reads rdIs_reads _ _ h3)]
    rfl
  | false =>
    simp only [Bool.false_eq_true, if_false] at h1
    unfold rdEn entB
    dsimp only
    simp only [Bool.false_eq_true, if_false, List.append_assoc]
    have hl := orderB_len h1.2
    rw [bd_of (qg_reads _ (by omega) (by omega) ⟨by omega, by omega⟩), if_neg (by omega), bd_of (qt_reads _ (by omega) (by omega)), rdOrd_of h1.1 hn]
    unfold rdEnO
    dsimp only
    rw [if_neg (by omega), bd_of (qg_reads _ (by omega) (by omega) ⟨by omega, by omega⟩), show ((ds.length : Int)).toNat = ds.length by omega, bd_of (rdList_reads rdIs_reads _ _ h3)]
    rfl
def headB (r : Rc) : List UInt8 := nb r.i.r ++ (nb r.i.n ++ (nb r.bal ++ (nb r.st ++ nb r.by_)))
def recB (r : Rc) : List UInt8 := headB r ++ (if r.st = 0 then [] else entB r.e)
def rdR : PR (Rc × Nat) := bd rdIs fun i => bd (qg 0 1000000) fun bal => bd (qg 0 3) fun st => bd (qg 0 1000000) fun by_ =>
  if st = 0 then pu (⟨i, bal, st, by_, en0⟩, 0) else bd rdEn fun e => pu (⟨i, bal, st, by_, e.1⟩, e.2)
def okRc (r : Rc) : Prop := okIs r.i ∧ (0 ≤ r.bal ∧ r.bal ≤ 1000000) ∧ (0 ≤ r.st ∧ r.st ≤ 3) ∧ (0 ≤ r.by_ ∧ r.by_ ≤ 1000000) ∧ (if r.st = 0 then r.e = en0 else okEn r.e)
theorem rdR_exact (s : RS) (v : Rc) (t : List UInt8) (h : rdR s = ((v, 0), 0, t)) : s = (0, recB v ++ t) ∧ okRc v := by
  unfold rdR at h
  obtain ⟨i, s1, h1, h⟩ := bd_inv h
  obtain ⟨bal, s2, h2, h⟩ := bd_inv h
  obtain ⟨st, s3, h3, h⟩ := bd_inv h
  obtain ⟨by_, s4, h4, h⟩ := bd_inv h
  by_cases hs : st = 0
  · rw [if_pos hs] at h
    simp only [pu, Prod.mk.injEq] at h
    obtain ⟨⟨rfl, _⟩, rfl⟩ := h
    obtain ⟨rfl, k4⟩ := qg_exact h4
    obtain ⟨rfl, k3⟩ := qg_exact h3
    obtain ⟨rfl, k2⟩ := qg_exact h2
    obtain ⟨rfl, k1⟩ := rdIs_exact _ _ _ h1
    refine ⟨?_, k1, k2, k3, k4, by simp [hs]⟩
    unfold recB headB isB
    dsimp only
    rw [if_pos hs]
    simp
  · rw [if_neg hs] at h
    obtain ⟨⟨en, f⟩, s5, h5, h⟩ := bd_inv h
    simp only [pu, Prod.mk.injEq] at h
    obtain ⟨⟨rfl, rfl⟩, rfl⟩ := h
    obtain ⟨rfl, k5⟩ := rdEn_exact _ _ _ h5
    obtain ⟨rfl, k4⟩ := qg_exact h4
    obtain ⟨rfl, k3⟩ := qg_exact h3
    obtain ⟨rfl, k2⟩ := qg_exact h2
    obtain ⟨rfl, k1⟩ := rdIs_exact _ _ _ h1
    refine ⟨?_, k1, k2, k3, k4, by simp [hs]; exact k5⟩
    unfold recB headB isB
    dsimp only
    rw [if_neg hs]
    simp
def numsE (e : En) : Prop := in64 e.o.sum ∧ ∀ l ∈ e.o.legs, in64 l.x
theorem rdR_reads (v : Rc) (t : List UInt8) (h : okRc v) (hn : numsE v.e) : rdR (0, recB v ++ t) = ((v, 0), 0, t) := by
  obtain ⟨i, bal, st, by_, e⟩ := v
  obtain ⟨h1, h2, h3, h4, h5⟩ := h
  dsimp only at h1 h2 h3 h4 h5 hn
  have hh : ∀ u, headB ⟨i, bal, st, by_, e⟩ ++ u = isB i ++ (nb bal ++ (nb st ++ (nb by_ ++ u))) := fun u => by unfold headB isB; simp
  unfold rdR recB
  rw [List.append_assoc, hh, bd_of (rdIs_reads _ _ h1), bd_of (qg_reads _ h2.1 h2.2 (in64_of h2.1 h2.2 (by decide) (by decide))), bd_of (qg_reads _ h3.1 h3.2 (in64_of h3.1 h3.2 (by decide) (by decide))), bd_of (qg_reads _ h4.1 h4.2 (in64_of h4.1 h4.2 (by decide) (by decide)))]
  by_cases hs : st = 0
  · rw [if_pos hs] at h5 ⊢
    subst h5
    dsimp only
    rw [if_pos hs]
    simp [pu]
  · rw [if_neg hs] at h5 ⊢
    dsimp only
    rw [if_neg hs, bd_of (rdEn_reads _ _ h5 hn)]
    rfl
def rc0 : Rc := ⟨⟨0, 0⟩, 0, 0, 0, en0⟩
/-- log.Read -/
def rdRec (b : List UInt8) : Rc × Nat :=
  if (rdR (0, b)).1.2 ≠ 0 ∨ dn (rdR (0, b)).2.2 (rdR (0, b)).2.1 ≠ 0 ∨ rightR (rdR (0, b)).1.1 = false then (rc0, 3) else ((rdR (0, b)).1.1, 0)
theorem goodD_okIs {i : Is} {ds : List Is} (h : depsB i ds = true) : ∀ d ∈ ds, okIs d := by
  intro d hd
  unfold depsB at h
  rw [List.all_eq_true] at h
  obtain ⟨j, hj, rfl⟩ := List.getElem_of_mem hd
  have := h j (List.mem_range.2 hj)
  unfold goodD at this
  rw [List.getElem?_eq_getElem hj] at this
  dsimp only at this
  rw [Bool.and_eq_true, Bool.and_eq_true] at this
  have := this.1.1
  unfold rightI at this
  rw [decide_eq_true_eq] at this
  exact ⟨⟨this.1, this.2.1⟩, by omega, by omega⟩
theorem rightR_okRc {r : Rc} (h : rightR r = true) (hn : numsE r.e) : okRc r := by
  unfold rightR at h
  rw [Bool.and_eq_true, Bool.and_eq_true] at h
  obtain ⟨h1, h2, h3⟩ := h
  unfold rightI at h1
  unfold slotB at h2
  rw [decide_eq_true_eq] at h1 h2
  unfold stateB at h3
  by_cases hs : r.st = 0
  · rw [if_pos hs, Bool.and_eq_true, decide_eq_true_eq, decide_eq_true_eq] at h3
    exact ⟨⟨⟨h1.1, h1.2.1⟩, by omega, by omega⟩, ⟨h2.1, h2.2.1⟩, by omega, by omega, by rw [if_pos hs]; exact h3.2⟩
  · rw [if_neg hs] at h3
    by_cases ht : r.st = 1 ∨ r.st = 2 ∨ r.st = 3
    · rw [if_pos ht, Bool.and_eq_true, decide_eq_true_eq] at h3
      obtain ⟨h4, h5⟩ := h3
      unfold rightE at h5
      rw [Bool.and_eq_true, Bool.and_eq_true] at h5
      refine ⟨⟨⟨h1.1, h1.2.1⟩, by omega, by omega⟩, ⟨h2.1, h2.2.1⟩, by omega, by omega, ?_⟩
      rw [if_neg hs]
      refine ⟨?_, h4, goodD_okIs h5.1⟩
      have h6 := h5.2.2
      by_cases hb : r.e.none = true
      · rw [if_pos hb] at h6 ⊢
        exact of_decide_eq_true h6
      · rw [if_neg hb] at h6 ⊢
        exact ⟨h6, rightO_okOd h6 hn⟩
    · rw [if_neg ht] at h3; cases h3
theorem entB_len {e : En} (h : okEn e) : (entB e).length ≤ 2500 := by
  obtain ⟨h1, h2, _⟩ := h
  have hl := flat_le isB 20 e.deps fun i _ => by
    have := nb_len i.r
    have := nb_len i.n
    unfold isB; rw [List.length_append]; omega
  have := nb_len (e.deps.length : Int)
  have := nb_len 0
  have := nb_len 1
  unfold entB
  by_cases hb : e.none = true
  · rw [if_pos hb]
    simp only [List.length_append]
    omega
  · rw [if_neg hb] at h1 ⊢
    have := orderB_len h1.2
    have := txtB_len (orderB e.o)
    simp only [List.length_append]
    omega
theorem recB_len {r : Rc} (h : okRc r) : (recB r).length ≤ 2600 := by
  have := nb_len r.i.r
  have := nb_len r.i.n
  have := nb_len r.bal
  have := nb_len r.st
  have := nb_len r.by_
  have h5 := h.2.2.2.2
  unfold recB headB
  by_cases hs : r.st = 0
  · rw [if_pos hs]; simp only [List.length_append, List.length_nil]; omega
  · rw [if_neg hs] at h5 ⊢
    have := entB_len h5
    simp only [List.length_append]; omega
theorem rdRec_of {r : Rc} (h : rightR r = true) (hn : numsE r.e) : rdRec (recB r) = (r, 0) := by
  have := rdR_reads r [] (rightR_okRc h hn) hn
  rw [List.append_nil] at this
  unfold rdRec
  rw [this]
  dsimp only
  rw [if_neg]
  rw [h, show dn [] 0 = 0 from rfl]
  simp
theorem rdRec_yes {b : List UInt8} {r : Rc} (h : rdRec b = (r, 0)) : rightR r = true ∧ b = recB r ∧ okRc r := by
  unfold rdRec at h
  obtain ⟨⟨p, f⟩, e, t, hr⟩ : ∃ q e t, rdR (0, b) = (q, e, t) := tri_ _
  rw [hr] at h
  dsimp only at h
  by_cases h1 : f ≠ 0 ∨ dn t e ≠ 0 ∨ rightR p = false
  · rw [if_pos h1] at h; simp at h
  · rw [if_neg h1] at h
    simp only [Prod.mk.injEq, and_true] at h
    subst h
    have h0 : f = 0 := Classical.byContradiction fun hh => h1 (.inl hh)
    have h2 : dn t e = 0 := Classical.byContradiction fun hh => h1 (.inr (.inl hh))
    subst h0
    obtain ⟨rfl, rfl⟩ := dn_zero.1 h2
    obtain ⟨h3, h4⟩ := rdR_exact _ _ _ hr
    simp only [Prod.mk.injEq, List.append_nil, true_and] at h3
    refine ⟨?_, h3, h4⟩
    cases hq : rightR p with
    | true => rfl
    | false => exact absurd (.inr (.inr hq)) h1
theorem rdRec_two (b : List UInt8) : (rdRec b).2 = 0 ∨ rdRec b = (rc0, 3) := by
  unfold rdRec
  split
  · exact .inr rfl
  · exact .inl rfl

/- MESSAGES -/
def msgB (m : Mg) : List UInt8 :=
  nb m.frm ++ (nb m.to ++ (nb m.kind ++ (if rightR m.r then nb 1 ++ txtB (recB m.r) else nb 0 ++ (nb m.r.bal ++ txtB (recB (bareR m.r))))))
def rdM : PR (Int × Int × Int × Bool × Int × List UInt8) := bd (qg 0 6) fun f => bd (qg 0 6) fun t => bd (qg 1 9) fun k => bd (qg 0 1) fun x =>
  if x = 1 then bd (qt 4096) fun s => pu (f, t, k, true, 0, s) else bd (qg 0 1000000) fun b => bd (qt 4096) fun s => pu (f, t, k, false, b, s)
def mg0 : Mg := ⟨0, 0, 0, rc0⟩
/-- what is made of the parts: none, where there is an error -/
def mkM (f t k : Int) (full : Bool) (bal : Int) (x : Rc) : Option Mg :=
  let m : Mg := if full then ⟨f, t, k, x⟩ else ⟨f, t, k, ⟨x.i, bal, 0, 0, x.e⟩⟩
  if (full || (decide (x.st = 3) && (decide (x.bal = 0) && !rightR m.r))) && rightM m then some m else none
/-- post.Read -/
def rdMsg (b : List UInt8) : Mg × Nat :=
  let p := rdM (0, b)
  if (rdRec p.1.2.2.2.2.2).2 ≠ 0 ∨ dn p.2.2 p.2.1 ≠ 0 then (mg0, 3) else
    match mkM p.1.1 p.1.2.1 p.1.2.2.1 p.1.2.2.2.1 p.1.2.2.2.2.1 (rdRec p.1.2.2.2.2.2).1 with
    | none => (mg0, 3)
    | some m => (m, 0)
theorem rdMsg_two (b : List UInt8) : (rdMsg b).2 = 0 ∨ rdMsg b = (mg0, 3) := by
  unfold rdMsg
  dsimp only
  split
  · exact .inr rfl
  · split
    · exact .inr rfl
    · exact .inl rfl
theorem rightM_ends {m : Mg} (h : rightM m = true) : (0 ≤ m.frm ∧ m.frm ≤ 6) ∧ (0 ≤ m.to ∧ m.to ≤ 6) ∧ (1 ≤ m.kind ∧ m.kind ≤ 9) ∧ (rightR m.r = true ∨ (plainB m = true ∧ rightR (bareR m.r) = true)) := by
  unfold rightM endsB kindMB at h
  simp only [Bool.and_eq_true, decide_eq_true_eq, Bool.or_eq_true] at h
  obtain ⟨⟨h1, h2, h3, h4, _⟩, h5, h6⟩ := h
  exact ⟨⟨h1, h2⟩, ⟨h3, h4⟩, h5, h6⟩
theorem rdMsg_of {m : Mg} (h : rightM m = true) (hn : numsE m.r.e) : rdMsg (msgB m) = (m, 0) := by
  obtain ⟨h1, h2, h3, h4⟩ := rightM_ends h
  obtain ⟨f, t, k, r⟩ := m
  dsimp only at h1 h2 h3 h4 hn
  cases hr : rightR r with
  | true =>
    have hp : rdM (0, msgB ⟨f, t, k, r⟩) = ((f, t, k, true, 0, recB r), 0, []) := by
      unfold rdM msgB
      dsimp only
      rw [hr, if_pos rfl]
      rw [bd_of (qg_reads _ h1.1 h1.2 (in64_of h1.1 h1.2 (by decide) (by decide))), bd_of (qg_reads _ h2.1 h2.2 (in64_of h2.1 h2.2 (by decide) (by decide))), bd_of (qg_reads _ h3.1 h3.2 (in64_of h3.1 h3.2 (by decide) (by decide))), bd_of (qg_reads _ (by omega) (by omega) ⟨by omega, by omega⟩), if_pos rfl]
      have := qt_reads (most := 4096) (v := recB r) [] (by have := recB_len (rightR_okRc hr hn); omega) (by omega)
      rw [List.append_nil] at this
      rw [bd_of this]
      rfl
    unfold rdMsg
    dsimp only
    rw [hp]
    dsimp only
    rw [rdRec_of hr hn, if_neg (by rw [show dn [] 0 = 0 from rfl]; simp)]
    unfold mkM
    simp only [if_true, Bool.true_or, Bool.true_and, h]
  | false =>
    rw [hr] at h4
    obtain ⟨h5, h6⟩ : plainB ⟨f, t, k, r⟩ = true ∧ rightR (bareR r) = true := by simpa using h4
    unfold plainB at h5
    simp only [decide_eq_true_eq] at h5
    have hp : rdM (0, msgB ⟨f, t, k, r⟩) = ((f, t, k, false, r.bal, recB (bareR r)), 0, []) := by
      unfold rdM msgB
      dsimp only
      rw [hr]
      simp only [Bool.false_eq_true, if_false]
      rw [bd_of (qg_reads _ h1.1 h1.2 (in64_of h1.1 h1.2 (by decide) (by decide))), bd_of (qg_reads _ h2.1 h2.2 (in64_of h2.1 h2.2 (by decide) (by decide))), bd_of (qg_reads _ h3.1 h3.2 (in64_of h3.1 h3.2 (by decide) (by decide))), bd_of (qg_reads _ (by omega) (by omega) ⟨by omega, by omega⟩), if_neg (by omega),
        bd_of (qg_reads _ (by omega) (by omega) ⟨by omega, by omega⟩)]
      have := qt_reads (most := 4096) (v := recB (bareR r)) [] (by have := recB_len (rightR_okRc h6 hn); omega) (by omega)
      rw [List.append_nil] at this
      rw [bd_of this]
      rfl
    have er : (⟨r.i, r.bal, 0, 0, r.e⟩ : Rc) = r := by
      obtain ⟨i, bal, st, by_, e⟩ := r
      dsimp only at h5 ⊢
      rw [h5.1, h5.2.1]
    unfold rdMsg
    dsimp only
    rw [hp]
    dsimp only
    rw [rdRec_of h6 hn, if_neg (by rw [show dn [] 0 = 0 from rfl]; simp)]
    unfold mkM
    simp only [bareR, Bool.false_eq_true, if_false, er, hr, h]
    simp
theorem rdMsg_yes {b : List UInt8} {m : Mg} (h : rdMsg b = (m, 0)) : rightM m = true ∧ b = msgB m := by
  unfold rdMsg at h
  dsimp only at h
  obtain ⟨⟨f, t, k, full, bal, s⟩, e, r, hp⟩ : ∃ q e r, rdM (0, b) = (q, e, r) := tri_ _
  rw [hp] at h
  dsimp only at h
  obtain ⟨x, g, hx⟩ : ∃ x g, rdRec s = (x, g) := duo_ _
  rw [hx] at h
  dsimp only at h
  by_cases h1 : g ≠ 0 ∨ dn r e ≠ 0
  · rw [if_pos h1] at h; simp at h
  · rw [if_neg h1] at h
    have h0 : g = 0 := Classical.byContradiction fun hh => h1 (.inl hh)
    have h2 : dn r e = 0 := Classical.byContradiction fun hh => h1 (.inr hh)
    subst h0
    obtain ⟨rfl, rfl⟩ := dn_zero.1 h2
    obtain ⟨x1, rfl, x3⟩ := rdRec_yes hx
    unfold rdM at hp
    obtain ⟨f', s1, q1, hp⟩ := bd_inv hp
    obtain ⟨t', s2, q2, hp⟩ := bd_inv hp
    obtain ⟨k', s3, q3, hp⟩ := bd_inv hp
    obtain ⟨y, s4, q4, hp⟩ := bd_inv hp
    by_cases hy : y = 1
    · rw [if_pos hy] at hp
      obtain ⟨s', s5, q5, hp⟩ := bd_inv hp
      simp only [pu, Prod.mk.injEq] at hp
      obtain ⟨⟨rfl, rfl, rfl, rfl, rfl, rfl⟩, rfl⟩ := hp
      obtain ⟨rfl, k5⟩ := qt_exact q5
      obtain ⟨rfl, k4⟩ := qg_exact q4
      obtain ⟨rfl, k3⟩ := qg_exact q3
      obtain ⟨rfl, k2⟩ := qg_exact q2
      obtain ⟨he, k1⟩ := qg_exact q1
      simp only [Prod.mk.injEq, true_and] at he
      unfold mkM at h
      simp only [if_true, Bool.true_or, Bool.true_and] at h
      by_cases hm : rightM ⟨f', t', k', x⟩ = true
      · rw [if_pos hm] at h
        simp only [Prod.mk.injEq, and_true] at h
        subst h
        refine ⟨hm, ?_⟩
        rw [he]
        unfold msgB
        dsimp only
        rw [x1, if_pos rfl, hy, List.append_nil]
      · rw [if_neg hm] at h; simp at h
    · rw [if_neg hy] at hp
      obtain ⟨bl', s5, q5, hp⟩ := bd_inv hp
      obtain ⟨s', s6, q6, hp⟩ := bd_inv hp
      simp only [pu, Prod.mk.injEq] at hp
      obtain ⟨⟨rfl, rfl, rfl, rfl, rfl, rfl⟩, rfl⟩ := hp
      obtain ⟨rfl, k6⟩ := qt_exact q6
      obtain ⟨rfl, k5⟩ := qg_exact q5
      obtain ⟨rfl, k4⟩ := qg_exact q4
      obtain ⟨rfl, k3⟩ := qg_exact q3
      obtain ⟨rfl, k2⟩ := qg_exact q2
      obtain ⟨he, k1⟩ := qg_exact q1
      simp only [Prod.mk.injEq, true_and] at he
      unfold mkM at h
      simp only [Bool.false_eq_true, if_false, Bool.false_or] at h
      by_cases hm : (decide (x.st = 3) && (decide (x.bal = 0) && !rightR ⟨x.i, bl', 0, 0, x.e⟩) && rightM ⟨f', t', k', ⟨x.i, bl', 0, 0, x.e⟩⟩) = true
      · rw [if_pos hm] at h
        simp only [Prod.mk.injEq, and_true] at h
        subst h
        simp only [Bool.and_eq_true, decide_eq_true_eq, Bool.not_eq_true'] at hm
        obtain ⟨⟨m1, m2, m3⟩, m4⟩ := hm
        refine ⟨m4, ?_⟩
        have hb : bareR ⟨x.i, bl', 0, 0, x.e⟩ = x := by
          obtain ⟨i, bal, st, by_, en⟩ := x
          dsimp only at m1 m2
          have := x1
          unfold rightR slotB at this
          simp only [Bool.and_eq_true, decide_eq_true_eq] at this
          unfold bareR
          dsimp only
          rw [m1, m2, show by_ = 0 by omega]
        obtain rfl : y = 0 := by omega
        rw [he]
        unfold msgB
        dsimp only
        rw [m3]
        simp only [Bool.false_eq_true, if_false]
        rw [hb, List.append_nil]
      · rw [if_neg hm] at h; simp at h
end Go.Proofs.YtimlfdihodoolaaGreat
/-
  slices.Concat of lists of bytes, however many. No condition.
-/
namespace Go.Proofs.YtimlfdihodoolaaGreat
set_option linter.unusedVariables false
set_option linter.unusedSimpArgs false
open Go.RowKit
def SameWB (w wr : World) : Prop := w = wr
/-- lists of bytes: their slices' values ss, what they hold lls -/
def BsAt (w : World) (G : Option Addr) (m : Nat) (ss : List SV) (lls : List (List UInt8)) : Prop :=
  Rd w 1 G m (ss.map SV.v) ∧ ss.length = lls.length ∧ ∀ (i : Nat) (s : SV) (l : List UInt8), ss[i]? = some s → lls[i]? = some l → RdB w s.a s.n l ∧ s.n ≤ 100000000
theorem BsAt.mod0 {w w' : World} {G : Option Addr} {m : Nat} {ss : List SV} {lls : List (List UInt8)} (h : BsAt w G m ss lls) (hm : Mod none_ w w') : BsAt w' G m ss lls :=
  ⟨Rd.mod0 h.1 hm, h.2.1, fun i s l hs hl => ⟨Rd.mod0 (h.2.2 i s l hs hl).1 hm, (h.2.2 i s l hs hl).2⟩⟩
theorem BsAt.len {w : World} {G : Option Addr} {m : Nat} {ss : List SV} {lls : List (List UInt8)} (h : BsAt w G m ss lls) : lls.length = m := by
  have h1 := h.1.1
  rw [List.length_map] at h1
  have := h.2.1
  omega
theorem BsAt.get {w : World} {G : Option Addr} {m : Nat} {ss : List SV} {lls : List (List UInt8)} (h : BsAt w G m ss lls) {j : Nat} (hj : j < m) :
    ∃ b o A n c l, G = some ⟨b, o, none⟩ ∧ w.cell? ⟨b, o + j, none⟩ = some (.slice A n c) ∧ lls[j]? = some l ∧ RdB w A n l ∧ n ≤ 100000000 := by
  obtain ⟨b, o, e, hc⟩ := Rd.form h.1 (show 0 < m by omega) (by omega)
  have hl := h.len
  have hs := h.2.1
  have hjs : j < ss.length := by omega
  have hjl : j < lls.length := by omega
  obtain ⟨h1, h2⟩ := h.2.2 j ss[j] lls[j] (List.getElem?_eq_getElem hjs) (List.getElem?_eq_getElem hjl)
  refine ⟨b, o, ss[j].a, ss[j].n, ss[j].c, lls[j], e, ?_, List.getElem?_eq_getElem hjl, h1, h2⟩
  exact hc j _ (by rw [List.getElem?_map, List.getElem?_eq_getElem hjs] <;> rfl)
theorem BsAt.nil (w : World) : BsAt w none 0 [] [] := ⟨Rd.none_, rfl, fun i s l hs _ => by simp at hs⟩
def preB (lls : List (List UInt8)) (j : Nat) : Nat := (lls.take j).flatten.length
theorem preB_succ {lls : List (List UInt8)} {j : Nat} {l : List UInt8} (h : lls[j]? = some l) : (lls.take (j + 1)).flatten = (lls.take j).flatten ++ l ∧ preB lls (j + 1) = preB lls j + l.length := by
  have hj : j < lls.length := by
    rcases Nat.lt_or_ge j lls.length with hh | hh
    · exact hh
    · rw [List.getElem?_eq_none hh] at h; cases h
  rw [List.getElem?_eq_getElem hj] at h
  injection h with h
  have e : (lls.take (j + 1)).flatten = (lls.take j).flatten ++ l := by
    rw [List.take_succ_eq_append_getElem hj, List.flatten_append, h]; simp
  exact ⟨e, by unfold preB; rw [e, List.length_append]⟩
set_option maxRecDepth 100000 in
set_option maxHeartbeats 2000000 in
theorem concatB_ok (w : World) (G : Option Addr) (m d : Nat) (ss : List SV) (lls : List (List UInt8)) (h : BsAt w G m ss lls) (hm1 : m ≤ 1000) :
    Calls Tryz.prog 55 #[.slice G m d] w (BytesPost w lls.flatten) := by
  have hl := h.len
  have hb : ∀ j, j ≤ m → preB lls j ≤ j * 100000000 := by
    intro j
    induction j with
    | zero => intro _; unfold preB; simp
    | succ j ih =>
      intro hj
      have := ih (by omega)
      obtain ⟨b, o, A, n, c, l, _, _, hl2, hr, hn⟩ := h.get (show j < m by omega)
      have h2 := (preB_succ hl2).2
      have h3 := hr.len
      omega
  have hfull : lls.take m = lls := List.take_of_length_le (by omega)
  have hpm : preB lls m = lls.flatten.length := by unfold preB; rw [hfull]
  have hbm := hb m (by omega)
  have gr := Lib.hid (fun W => grow_ok W (preB lls m) (by omega))
  replace h := Lib.hid h
  replace hfull := Lib.hid hfull
  replace hb := Lib.hid hb
  replace hpm := Lib.hid hpm
  go_enter Tryz.func55, Tryz.ntmps55
  go_wp2_with fail
  go_loopw [3, 11] (fun s x wr => ∃ j : Nat, x = .int .i64 j ∧ s = .int .i64 (preB lls j : Nat) ∧ j ≤ m ∧ SameWB w wr) (fun _ x _ => m - (intOf x).toNat)
  case atStart => exact ⟨0, rfl, by unfold preB; simp, by omega, rfl⟩
  case round =>
    obtain ⟨j, rfl, rfl, hj, hw⟩ := hrel
    cases hw
    by_cases hlt : j < m
    · obtain ⟨b, o, A, n, c, l, rfl, hc, hl2, hr, hn⟩ := h.out.get hlt
      have h2 := (preB_succ hl2).2
      have h3 := hr.len
      have h4 := hb.out j hj
      have h5 : j * 100000000 ≤ 100000000000 := by omega
      rw [h3] at h2
      generalize preB lls j = pj at *
      have h6 : wrap64 ((pj : Int) + (n : Int)) = ((pj + n : Nat) : Int) := by unfold wrap64; omega
      replace hl2 := Lib.hid hl2
      replace hr := Lib.hid hr
      replace h2 := Lib.hid h2
      replace h3 := Lib.hid h3
      go_wp2_with fail
      go_roundw
      case rel => exact ⟨j + 1, by go_num, by rw [h2.out]; simp, by omega, rfl⟩
      case measure => simp [intOf]; omega
    · have hjm : j = m := by omega
      subst hjm
      go_wp2_with fail
      refine (gr.out _).mono ?_
      rintro e w1 ⟨A0, c0, rfl, ho0, hf0, hm0⟩
      dsimp only
      replace ho0 := Lib.hid ho0
      replace hf0 := Lib.hid hf0
      replace hm0 := Lib.hid hm0
      go_wp2_with fail
      go_loopw [6, 27] (fun v x wr => ∃ i : Nat, x = .int .i64 i ∧ i ≤ j ∧ ∃ A' c', v = .slice A' (preB lls i) c' ∧ OwB wr 5 A' (preB lls i) c' (lls.take i).flatten ∧ Fresh w A' ∧ Mod none_ w wr) (fun _ x _ => j - (intOf x).toNat)
      case atStart =>
        refine ⟨0, rfl, by omega, A0, c0, ?_, ?_, hf0.out, hm0.out⟩
        · unfold preB; simp
        · have := ho0.out; unfold preB; simpa using this
      case round =>
        obtain ⟨i, rfl, hi, A', c', rfl, how, hf, hm⟩ := hrel
        by_cases hlt2 : i < j
        · obtain ⟨b, o, A, n, c, l, rfl, hc, hl2, hr, hn⟩ := (h.out.mod0 hm).get hlt2
          obtain ⟨e1, e2⟩ := preB_succ hl2
          have h3 := hr.len
          have h4 := hb.out i hi
          have h5 : i * 100000000 ≤ 100000000000 := by omega
          rw [h3] at e2
          generalize preB lls i = pj at *
          replace how := Lib.hid how
          replace hf := Lib.hid hf
          replace hm := Lib.hid hm
          replace hl2 := Lib.hid hl2
          replace hr := Lib.hid hr
          replace e1 := Lib.hid e1
          replace e2 := Lib.hid e2
          replace h3 := Lib.hid h3
          go_wp2_with (at_builtin; go_loud (refine app8 rfl (.tmp 31) (.tmp 32) rfl rfl how.out rfl hr.out (by omega) ?_; intro A2 c2 w2 ho2 hm2 hA2; replace ho2 := Lib.hid ho2; replace hm2 := Lib.hid hm2; replace hA2 := Lib.hid hA2))
          go_roundw
          case rel =>
            refine ⟨i + 1, by go_num, by omega, A2, c2, by rw [e2.out], ?_, Fresh.app hf.out hm.out.size hA2.out, hm.out.app hf.out hm2.out⟩
            rw [e2.out, e1.out]; exact ho2.out
          case measure => simp [intOf]; omega
        · have hij : i = j := by omega
          subst hij
          rw [hfull.out] at how
          rw [hpm.out] at how ⊢
          replace how := Lib.hid how
          replace hf := Lib.hid hf
          replace hm := Lib.hid hm
          go_wp2_with fail
          go_ret
          exact ⟨A', c', rfl, how.out, hf.out, hm.out⟩
/-- where a list of bytes lies -/
structure ByAt (w : World) (s : SV) (l : List UInt8) : Prop where
  rd : RdB w s.a s.n l
  small : s.n ≤ 100000000
theorem ByAt.mod0 {w w' : World} {s : SV} {l : List UInt8} (h : ByAt w s l) (hm : Mod none_ w w') : ByAt w' s l := ⟨Rd.mod0 h.rd hm, h.small⟩
/-- the row of slices that a call of Concat is handed -/
theorem bsAt_of (w : World) (t : TypeId) (ss : List SV) (lls : List (List UInt8)) (h1 : ss.length = lls.length) (h2 : ∀ (i : Nat) (s : SV) (l : List UInt8), ss[i]? = some s → lls[i]? = some l → ByAt w s l) :
    BsAt (w.alloc (.cells (ss.map SV.v).toArray t)) (some ⟨w.heap.size, 0, none⟩) ss.length ss lls :=
  ⟨rdn w t 1 ss.length w.heap.size (ss.map SV.v).toArray (0, 0) rfl (by simp), h1, fun i s l hs hl => ⟨Rd.alloc (h2 i s l hs hl).rd _, (h2 i s l hs hl).small⟩⟩
/-- lists of bytes, each where its slice says -/
def AllAt (w : World) : List SV → List (List UInt8) → Prop
  | [], [] => True
  | s :: ss, l :: lls => ByAt w s l ∧ AllAt w ss lls
  | _, _ => False
theorem AllAt.get {w : World} : ∀ {ss : List SV} {lls : List (List UInt8)}, AllAt w ss lls → ss.length = lls.length ∧ ∀ (i : Nat) (s : SV) (l : List UInt8), ss[i]? = some s → lls[i]? = some l → ByAt w s l
  | [], [], _ => ⟨rfl, fun i s l hs _ => by simp at hs⟩
  | s :: ss, l :: lls, h => by
    obtain ⟨h1, h2⟩ := AllAt.get h.2
    refine ⟨by simp [h1], fun i s' l' hs hl => ?_⟩
    cases i with
    | zero => simp at hs hl; subst hs hl; exact h.1
    | succ i => exact h2 i s' l' (by simpa using hs) (by simpa using hl)
  | [], _ :: _, h => h.elim
  | _ :: _, [], h => h.elim
theorem bsAt_all (w : World) (t : TypeId) (ss : List SV) (lls : List (List UInt8)) (h : AllAt w ss lls) : BsAt (w.alloc (.cells (ss.map SV.v).toArray t)) (some ⟨w.heap.size, 0, none⟩) ss.length ss lls :=
  bsAt_of w t ss lls h.get.1 h.get.2
end Go.Proofs.YtimlfdihodoolaaGreat
/-
  order.num, order.Bytes. No condition.
-/
namespace Go.Proofs.YtimlfdihodoolaaGreat
set_option linter.unusedVariables false
set_option linter.unusedSimpArgs false
open Go.RowKit
theorem numB_ok (w : World) (n : Int) (h : in64 n) : Calls Tryz.prog 82 #[.int .i64 n] w (BytesPost w (nb n)) :=
  (num_ok w n h.1 h.2).mono (by
    rintro e w' ⟨A, k, c, rfl, ho, hf, hm, hk⟩
    have hl := ho.len
    subst hl
    exact ⟨A, c, rfl, ho, hf, hm⟩)
theorem onum_ok (w : World) (n : Int) (h : in64 n) : Calls Tryz.prog 83 #[.int .i64 n] w (BytesPost w (nb n)) := by
  go_enter Tryz.func83, Tryz.ntmps83
  go_wp2_with fail
  refine (numB_ok _ _ h).mono ?_
  rintro e w1 ⟨A, c, rfl, ho, hf, hm⟩
  dsimp only
  replace ho := Lib.hid ho
  replace hf := Lib.hid hf
  replace hm := Lib.hid hm
  go_wp2_with fail
  go_ret
  exact ⟨A, c, rfl, ho.out, hf.out, hm.out⟩
theorem ByAt.of_ow {w : World} {e : TypeId} {A : Option Addr} {c : Nat} {l : List UInt8} (h : OwB w e A l.length c l) (hl : l.length ≤ 100000000) : ByAt w ⟨A, l.length, c⟩ l := ⟨h.rd, hl⟩
def BPost (w : World) (ok : Bool) (l : List UInt8) (e : Ending) (w' : World) : Prop :=
  (ok = true ∧ ∃ A c, e = .returned (.tuple #[.slice A l.length c, .int .i64 0]) ∧ OwB w' 5 A l.length c l ∧ Fresh w A ∧ Mod none_ w w') ∨ (ok = false ∧ e = .returned (.tuple #[.slice none 0 0, .int .i64 1]) ∧ Mod none_ w w')
theorem in64_mk {n : Int} (h1 : -9223372036854775808 ≤ n) (h2 : n ≤ 9223372036854775807) : in64 n := ⟨h1, h2⟩
theorem nb_small (n : Int) : (nb n).length ≤ 100000000 := by have := nb_len n; omega
theorem txtB_small {s : List UInt8} (h : s.length ≤ 1000) : (txtB s).length ≤ 100000000 := by have := txtB_len s; omega
def odC (o : Od) (L : SV) : Array Value := #[.int .i64 o.c, .int .i64 o.s, .int .i64 o.k, .string (txt o.acct), .string (txt o.peer), .int .i64 o.sum, .slice L.a L.n L.c, .int .i64 o.per, .int .i64 o.hold, .string (txt o.note)]
def odS (g : Nat) (o : Od) (L : SV) (W : World) : Prop :=
  W.cell? ⟨g, 0, none⟩ = some (.int .i64 o.c) ∧ W.cell? ⟨g, 1, none⟩ = some (.int .i64 o.s) ∧ W.cell? ⟨g, 2, none⟩ = some (.int .i64 o.k) ∧ W.cell? ⟨g, 3, none⟩ = some (.string (txt o.acct)) ∧ W.cell? ⟨g, 4, none⟩ = some (.string (txt o.peer)) ∧
    W.cell? ⟨g, 5, none⟩ = some (.int .i64 o.sum) ∧ W.cell? ⟨g, 6, none⟩ = some (.slice L.a L.n L.c) ∧ W.cell? ⟨g, 7, none⟩ = some (.int .i64 o.per) ∧ W.cell? ⟨g, 8, none⟩ = some (.int .i64 o.hold) ∧ W.cell? ⟨g, 9, none⟩ = some (.string (txt o.note))
theorem odS_of {W : World} {g : Nat} {t : TypeId} {o : Od} {L : SV} (h : Blk W g t #[.int .i64 o.c, .int .i64 o.s, .int .i64 o.k, .string (txt o.acct), .string (txt o.peer), .int .i64 o.sum, .slice L.a L.n L.c, .int .i64 o.per, .int .i64 o.hold, .string (txt o.note)]) : odS g o L W :=
  ⟨h.cell_ rfl, h.cell_ rfl, h.cell_ rfl, h.cell_ rfl, h.cell_ rfl, h.cell_ rfl, h.cell_ rfl, h.cell_ rfl, h.cell_ rfl, h.cell_ rfl⟩
def headO (o : Od) : List UInt8 := nb o.c ++ (nb o.s ++ (nb o.k ++ (txtB o.acct ++ (txtB o.peer ++ (nb o.sum ++ nb (o.legs.length : Int))))))
theorem headO_len {o : Od} (h4 : o.acct.length ≤ 8) (h5 : o.peer.length ≤ 8) : (headO o).length ≤ 100 := by
  have := nb_len o.c
  have := nb_len o.s
  have := nb_len o.k
  have := nb_len o.sum
  have := nb_len (o.legs.length : Int)
  have := txtB_len o.acct
  have := txtB_len o.peer
  unfold headO
  simp only [List.length_append]
  omega
theorem orderB_head (o : Od) : orderB o = headO o ++ (o.legs.flatMap legB ++ (nb o.per ++ (nb o.hold ++ txtB o.note))) := by
  unfold orderB headO
  simp only [List.append_assoc]
set_option maxRecDepth 100000 in
set_option maxHeartbeats 8000000 in
theorem orderBytes_ok (w : World) (o : Od) (L : SV) (hO : OdM w o L) (hL : L.n ≤ 140737488355328) (hk : (Lit.int .i64 o.k).wf = true) (hz : ∀ l ∈ o.legs, (txt l.n).size ≤ maxLen) (hn : in64 o.sum ∧ ∀ l ∈ o.legs, in64 l.x) :
    Calls Tryz.prog 59 #[.agg #[.int .i64 o.c, .int .i64 o.s, .int .i64 o.k, .string (txt o.acct), .string (txt o.peer), .int .i64 o.sum, .slice L.a L.n L.c, .int .i64 o.per, .int .i64 o.hold, .string (txt o.note)]] w (BPost w (rightO o) (orderB o)) := by
  have hB := Blk.new w 30 #[.int .i64 o.c, .int .i64 o.s, .int .i64 o.k, .string (txt o.acct), .string (txt o.peer), .int .i64 o.sum, .slice L.a L.n L.c, .int .i64 o.per, .int .i64 o.hold, .string (txt o.note)]
  have hm0 := (Mod.refl none_ w).alloc (.cells #[.int .i64 o.c, .int .i64 o.s, .int .i64 o.k, .string (txt o.acct), .string (txt o.peer), .int .i64 o.sum, .slice L.a L.n L.c, .int .i64 o.per, .int .i64 o.hold, .string (txt o.note)] 30)
  have kR := Lib.hid (rightO_ok _ o L (hO.mod0 hm0) hL hk hz)
  have hrd := Lib.hid hO.rd
  have hlen := Lib.hid hO.rd.len
  replace hB := Lib.hid hB
  replace hm0 := Lib.hid hm0
  replace hz := Lib.hid hz
  replace hO := Lib.hid hO
  go_enter Tryz.func59, Tryz.ntmps59
  go_wp2_with (refine wpList_load_row rfl 30 (.tmp 1) rfl w.heap.size rfl _ _ _ _ hB.out Tryz.underlying30 rfl order_size ?_)
  with_reducible refine kR.out.mono ?_
  rintro e w1 ⟨rfl, hm1⟩
  dsimp only
  cases hr : rightO o with
  | false =>
    replace hr := Lib.hid hr
    replace hm1 := Lib.hid hm1
    go_wp2_with fail
    go_ret2
    exact .inr ⟨hr.out, rfl, hm0.out.trans hm1.out⟩
  | true =>
    have hok := rightO_okOd hr hn
    obtain ⟨⟨k1, k1'⟩, ⟨k2, k2'⟩, ⟨k3, k3'⟩, k4, k5, k6, k7, k8, ⟨k9, k9'⟩, ⟨k10, k10'⟩, k11⟩ := hok
    have hB1 := hB.out.mod hm1 (fun h => h)
    have kC := Lib.hid (fun W (h : Mod none_ w1 W) => odS_of (hB1.mod h (fun h => h)))
    have hmm := Lib.hid (hm0.out.trans hm1)
    replace hr := Lib.hid hr
    replace hm1 := Lib.hid hm1
    replace hB1 := Lib.hid hB1
    replace k6 := Lib.hid k6
    replace k8 := Lib.hid k8
    clear hB
    go_wp2_with fail
    have hM0 := Lib.hid ((Mod.refl none_ w1).drew)
    refine wp_region_held_drew (S := fun W => Mod none_ w1 W) (by kernel_rfl) hM0.out (fun hHeld => ?_)
    refine wpAnyH_take (i := 0) (v := ?_) rfl (by kernel_rfl) (by kernel_rfl) (by kernel_rfl) (fun _ _ _ h => h) (Or.inl ⟨by rfl, ?_⟩) (by assumption) ?_
    rotate_left
    · intro W hSw; (try dsimp only at hSw); go_simp; (try with_reducible rfl)
    try simp only [Act.put, List.getElem_toArray, List.getElem_cons_zero, List.getElem_cons_succ, List.setIfInBounds_toArray, List.set_cons_zero, List.set_cons_succ]
    refine wpAnyH_take (i := 1) (v := ?_) rfl (by kernel_rfl) (by kernel_rfl) (by kernel_rfl) (fun _ _ _ h => h) (Or.inl ⟨by rfl, ?_⟩) (by assumption) ?_
    rotate_left
    · intro W hSw; (try dsimp only at hSw); go_simp; (try with_reducible rfl)
    try simp only [Act.put, List.getElem_toArray, List.getElem_cons_zero, List.getElem_cons_succ, List.setIfInBounds_toArray, List.set_cons_zero, List.set_cons_succ]
    refine wpAnyH_take (i := 4) (v := ?_) rfl (by kernel_rfl) (by kernel_rfl) (by kernel_rfl) (fun _ _ _ h => h) (Or.inl ⟨by rfl, ?_⟩) (by assumption) ?_
    rotate_left
    · intro W hSw; (try dsimp only at hSw); go_simp; (try with_reducible rfl)
    try simp only [Act.put, List.getElem_toArray, List.getElem_cons_zero, List.getElem_cons_succ, List.setIfInBounds_toArray, List.set_cons_zero, List.set_cons_succ]
    refine wpAnyH_take (i := 5) (v := ?_) rfl (by kernel_rfl) (by kernel_rfl) (by kernel_rfl) (fun _ _ _ h => h) (Or.inl ⟨by rfl, ?_⟩) (by assumption) ?_
    rotate_left
    · intro W hSw; (try dsimp only at hSw); go_simp; (try with_reducible rfl)
    try simp only [Act.put, List.getElem_toArray, List.getElem_cons_zero, List.getElem_cons_succ, List.setIfInBounds_toArray, List.set_cons_zero, List.set_cons_succ]
    refine wpAnyH_take (i := 8) (v := ?_) rfl (by kernel_rfl) (by kernel_rfl) (by kernel_rfl) (fun _ _ _ h => h) (Or.inl ⟨by rfl, ?_⟩) (by assumption) ?_
    rotate_left
    · intro W hSw; (try dsimp only at hSw); go_simp; (try with_reducible rfl)
    try simp only [Act.put, List.getElem_toArray, List.getElem_cons_zero, List.getElem_cons_succ, List.setIfInBounds_toArray, List.set_cons_zero, List.set_cons_succ]
    refine wpAnyH_take (i := 11) (v := ?_) rfl (by kernel_rfl) (by kernel_rfl) (by kernel_rfl) (fun _ _ _ h => h) (Or.inl ⟨by rfl, ?_⟩) (by assumption) ?_
    rotate_left
    · intro W hSw; (try dsimp only at hSw); go_simp; (try with_reducible rfl)
    try simp only [Act.put, List.getElem_toArray, List.getElem_cons_zero, List.getElem_cons_succ, List.setIfInBounds_toArray, List.set_cons_zero, List.set_cons_succ]
    refine wpAnyH_take (i := 14) (v := ?_) rfl (by kernel_rfl) (by kernel_rfl) (by kernel_rfl) (fun _ _ _ h => h) (Or.inl ⟨by rfl, ?_⟩) (by assumption) ?_
    rotate_left
    · intro W hSw; (try dsimp only at hSw); go_simp; (try with_reducible rfl)
    try simp only [Act.put, List.getElem_toArray, List.getElem_cons_zero, List.getElem_cons_succ, List.setIfInBounds_toArray, List.set_cons_zero, List.set_cons_succ]
    refine wpAnyH_take (i := 17) (v := ?_) rfl (by kernel_rfl) (by kernel_rfl) (by kernel_rfl) (fun _ _ _ h => h) (Or.inl ⟨by rfl, ?_⟩) (by assumption) ?_
    rotate_left
    · intro W hSw; (try dsimp only at hSw); go_simp; (try with_reducible rfl)
    try simp only [Act.put, List.getElem_toArray, List.getElem_cons_zero, List.getElem_cons_succ, List.setIfInBounds_toArray, List.set_cons_zero, List.set_cons_succ]
    refine wpAnyH_take (i := 20) (v := ?_) rfl (by kernel_rfl) (by kernel_rfl) (by kernel_rfl) (fun _ _ _ h => h) (Or.inl ⟨by rfl, ?_⟩) (by assumption) ?_
    rotate_left
    · intro W hSw; (try dsimp only at hSw); go_simp; (try with_reducible rfl)
    try simp only [Act.put, List.getElem_toArray, List.getElem_cons_zero, List.getElem_cons_succ, List.setIfInBounds_toArray, List.set_cons_zero, List.set_cons_succ]
    refine wpAnyH_take (i := 2) (v := ?_) rfl (by kernel_rfl) (by kernel_rfl) (by kernel_rfl) (fun _ _ _ h => h) (Or.inl ⟨by rfl, ?_⟩) (by assumption) ?_
    rotate_left
    · intro W hSw; obtain ⟨s0, s1, s2, s3, s4, s5, s6, s7, s8, s9⟩ := kC.out W hSw; go_simp; (try with_reducible rfl)
    try simp only [Act.put, List.getElem_toArray, List.getElem_cons_zero, List.getElem_cons_succ, List.setIfInBounds_toArray, List.set_cons_zero, List.set_cons_succ]
    refine wpAnyH_take (i := 6) (v := ?_) rfl (by kernel_rfl) (by kernel_rfl) (by kernel_rfl) (fun _ _ _ h => h) (Or.inl ⟨by rfl, ?_⟩) (by assumption) ?_
    rotate_left
    · intro W hSw; obtain ⟨s0, s1, s2, s3, s4, s5, s6, s7, s8, s9⟩ := kC.out W hSw; go_simp; (try with_reducible rfl)
    try simp only [Act.put, List.getElem_toArray, List.getElem_cons_zero, List.getElem_cons_succ, List.setIfInBounds_toArray, List.set_cons_zero, List.set_cons_succ]
    refine wpAnyH_take (i := 9) (v := ?_) rfl (by kernel_rfl) (by kernel_rfl) (by kernel_rfl) (fun _ _ _ h => h) (Or.inl ⟨by rfl, ?_⟩) (by assumption) ?_
    rotate_left
    · intro W hSw; obtain ⟨s0, s1, s2, s3, s4, s5, s6, s7, s8, s9⟩ := kC.out W hSw; go_simp; (try with_reducible rfl)
    try simp only [Act.put, List.getElem_toArray, List.getElem_cons_zero, List.getElem_cons_succ, List.setIfInBounds_toArray, List.set_cons_zero, List.set_cons_succ]
    refine wpAnyH_take (i := 12) (v := ?_) rfl (by kernel_rfl) (by kernel_rfl) (by kernel_rfl) (fun _ _ _ h => h) (Or.inl ⟨by rfl, ?_⟩) (by assumption) ?_
    rotate_left
    · intro W hSw; obtain ⟨s0, s1, s2, s3, s4, s5, s6, s7, s8, s9⟩ := kC.out W hSw; go_simp; (try with_reducible rfl)
    try simp only [Act.put, List.getElem_toArray, List.getElem_cons_zero, List.getElem_cons_succ, List.setIfInBounds_toArray, List.set_cons_zero, List.set_cons_succ]
    refine wpAnyH_take (i := 15) (v := ?_) rfl (by kernel_rfl) (by kernel_rfl) (by kernel_rfl) (fun _ _ _ h => h) (Or.inl ⟨by rfl, ?_⟩) (by assumption) ?_
    rotate_left
    · intro W hSw; obtain ⟨s0, s1, s2, s3, s4, s5, s6, s7, s8, s9⟩ := kC.out W hSw; go_simp; (try with_reducible rfl)
    try simp only [Act.put, List.getElem_toArray, List.getElem_cons_zero, List.getElem_cons_succ, List.setIfInBounds_toArray, List.set_cons_zero, List.set_cons_succ]
    refine wpAnyH_take (i := 18) (v := ?_) rfl (by kernel_rfl) (by kernel_rfl) (by kernel_rfl) (fun _ _ _ h => h) (Or.inl ⟨by rfl, ?_⟩) (by assumption) ?_
    rotate_left
    · intro W hSw; obtain ⟨s0, s1, s2, s3, s4, s5, s6, s7, s8, s9⟩ := kC.out W hSw; go_simp; (try with_reducible rfl)
    try simp only [Act.put, List.getElem_toArray, List.getElem_cons_zero, List.getElem_cons_succ, List.setIfInBounds_toArray, List.set_cons_zero, List.set_cons_succ]
    refine wpAnyH_take (i := 21) (v := ?_) rfl (by kernel_rfl) (by kernel_rfl) (by kernel_rfl) (fun _ _ _ h => h) (Or.inl ⟨by rfl, ?_⟩) (by assumption) ?_
    rotate_left
    · intro W hSw; obtain ⟨s0, s1, s2, s3, s4, s5, s6, s7, s8, s9⟩ := kC.out W hSw; go_simp; (try with_reducible rfl)
    try simp only [Act.put, List.getElem_toArray, List.getElem_cons_zero, List.getElem_cons_succ, List.setIfInBounds_toArray, List.set_cons_zero, List.set_cons_succ]
    refine wpAnyH_take (i := 22) (v := ?_) rfl (by kernel_rfl) (by kernel_rfl) (by kernel_rfl) (fun _ _ _ h => h) (Or.inl ⟨by rfl, ?_⟩) (by assumption) ?_
    rotate_left
    · intro W hSw; (try dsimp only at hSw); go_simp; (try with_reducible rfl)
    try simp only [Act.put, List.getElem_toArray, List.getElem_cons_zero, List.getElem_cons_succ, List.setIfInBounds_toArray, List.set_cons_zero, List.set_cons_succ]
    refine wpAnyH_ready (rs := [3]) (by kernel_rfl) (by simp) ?_
    refine AllReadyH.cons rfl (fun K hK => ?_) AllReadyH.nil
    go_simp
    (with_reducible refine (onum_ok _ o.c (in64_mk (by omega) (by omega))).mono ?_); rintro e3 w3 ⟨A3, c3, rfl, ho3, hf3, hm3⟩; dsimp only
    have hM3 := Lib.hid (hM0.out.trans hm3)
    have z3 := Lib.hid (ByAt.of_ow ho3 (nb_small _))
    clear hm3 ho3 hf3
    go_wp2_with fail
    refine hK.out _ _ (hM3.out) (fun hHeld => ?_)
    clear hK K
    try simp only [Act.put, List.getElem_toArray, List.getElem_cons_zero, List.getElem_cons_succ, List.setIfInBounds_toArray, List.set_cons_zero, List.set_cons_succ]
    refine wpAnyH_ready (rs := [7]) (by kernel_rfl) (by simp) ?_
    refine AllReadyH.cons rfl (fun K hK => ?_) AllReadyH.nil
    go_simp
    (with_reducible refine (onum_ok _ o.s (in64_mk (by omega) (by omega))).mono ?_); rintro e7 w7 ⟨A7, c7, rfl, ho7, hf7, hm7⟩; dsimp only
    have hM7 := Lib.hid (hM3.out.trans hm7)
    replace z3 := Lib.hid (z3.out.mod0 hm7)
    have z7 := Lib.hid (ByAt.of_ow ho7 (nb_small _))
    clear hm7 ho7 hf7
    go_wp2_with fail
    refine hK.out _ _ (hM7.out) (fun hHeld => ?_)
    clear hK K
    try simp only [Act.put, List.getElem_toArray, List.getElem_cons_zero, List.getElem_cons_succ, List.setIfInBounds_toArray, List.set_cons_zero, List.set_cons_succ]
    refine wpAnyH_ready (rs := [10]) (by kernel_rfl) (by simp) ?_
    refine AllReadyH.cons rfl (fun K hK => ?_) AllReadyH.nil
    go_simp
    (with_reducible refine (onum_ok _ o.k (in64_mk (by omega) (by omega))).mono ?_); rintro e10 w10 ⟨A10, c10, rfl, ho10, hf10, hm10⟩; dsimp only
    have hM10 := Lib.hid (hM7.out.trans hm10)
    replace z3 := Lib.hid (z3.out.mod0 hm10)
    replace z7 := Lib.hid (z7.out.mod0 hm10)
    have z10 := Lib.hid (ByAt.of_ow ho10 (nb_small _))
    clear hm10 ho10 hf10
    go_wp2_with fail
    refine hK.out _ _ (hM10.out) (fun hHeld => ?_)
    clear hK K
    try simp only [Act.put, List.getElem_toArray, List.getElem_cons_zero, List.getElem_cons_succ, List.setIfInBounds_toArray, List.set_cons_zero, List.set_cons_succ]
    refine wpAnyH_ready (rs := [13]) (by kernel_rfl) (by simp) ?_
    refine AllReadyH.cons rfl (fun K hK => ?_) AllReadyH.nil
    go_simp
    (with_reducible refine (text_ok _ _ (by omega)).mono ?_); rintro e13 w13 ⟨A13, c13, rfl, ho13, hf13, hm13⟩; dsimp only
    have hM13 := Lib.hid (hM10.out.trans hm13)
    replace z3 := Lib.hid (z3.out.mod0 hm13)
    replace z7 := Lib.hid (z7.out.mod0 hm13)
    replace z10 := Lib.hid (z10.out.mod0 hm13)
    have z13 := Lib.hid (ByAt.of_ow ho13 (txtB_small (by omega)))
    clear hm13 ho13 hf13
    go_wp2_with fail
    refine hK.out _ _ (hM13.out) (fun hHeld => ?_)
    clear hK K
    try simp only [Act.put, List.getElem_toArray, List.getElem_cons_zero, List.getElem_cons_succ, List.setIfInBounds_toArray, List.set_cons_zero, List.set_cons_succ]
    refine wpAnyH_ready (rs := [16]) (by kernel_rfl) (by simp) ?_
    refine AllReadyH.cons rfl (fun K hK => ?_) AllReadyH.nil
    go_simp
    (with_reducible refine (text_ok _ _ (by omega)).mono ?_); rintro e16 w16 ⟨A16, c16, rfl, ho16, hf16, hm16⟩; dsimp only
    have hM16 := Lib.hid (hM13.out.trans hm16)
    replace z3 := Lib.hid (z3.out.mod0 hm16)
    replace z7 := Lib.hid (z7.out.mod0 hm16)
    replace z10 := Lib.hid (z10.out.mod0 hm16)
    replace z13 := Lib.hid (z13.out.mod0 hm16)
    have z16 := Lib.hid (ByAt.of_ow ho16 (txtB_small (by omega)))
    clear hm16 ho16 hf16
    go_wp2_with fail
    refine hK.out _ _ (hM16.out) (fun hHeld => ?_)
    clear hK K
    try simp only [Act.put, List.getElem_toArray, List.getElem_cons_zero, List.getElem_cons_succ, List.setIfInBounds_toArray, List.set_cons_zero, List.set_cons_succ]
    refine wpAnyH_ready (rs := [19]) (by kernel_rfl) (by simp) ?_
    refine AllReadyH.cons rfl (fun K hK => ?_) AllReadyH.nil
    go_simp
    (with_reducible refine (numB_ok _ _ k6.out).mono ?_); rintro e19 w19 ⟨A19, c19, rfl, ho19, hf19, hm19⟩; dsimp only
    have hM19 := Lib.hid (hM16.out.trans hm19)
    replace z3 := Lib.hid (z3.out.mod0 hm19)
    replace z7 := Lib.hid (z7.out.mod0 hm19)
    replace z10 := Lib.hid (z10.out.mod0 hm19)
    replace z13 := Lib.hid (z13.out.mod0 hm19)
    replace z16 := Lib.hid (z16.out.mod0 hm19)
    have z19 := Lib.hid (ByAt.of_ow ho19 (nb_small _))
    clear hm19 ho19 hf19
    go_wp2_with fail
    refine hK.out _ _ (hM19.out) (fun hHeld => ?_)
    clear hK K
    try simp only [Act.put, List.getElem_toArray, List.getElem_cons_zero, List.getElem_cons_succ, List.setIfInBounds_toArray, List.set_cons_zero, List.set_cons_succ]
    refine wpAnyH_ready (rs := [23]) (by kernel_rfl) (by simp) ?_
    refine AllReadyH.cons rfl (fun K hK => ?_) AllReadyH.nil
    go_simp
    (with_reducible refine (onum_ok _ (L.n : Int) (in64_mk (by omega) (by omega))).mono ?_); rintro e23 w23 ⟨A23, c23, rfl, ho23, hf23, hm23⟩; dsimp only
    have hM23 := Lib.hid (hM19.out.trans hm23)
    replace z3 := Lib.hid (z3.out.mod0 hm23)
    replace z7 := Lib.hid (z7.out.mod0 hm23)
    replace z10 := Lib.hid (z10.out.mod0 hm23)
    replace z13 := Lib.hid (z13.out.mod0 hm23)
    replace z16 := Lib.hid (z16.out.mod0 hm23)
    replace z19 := Lib.hid (z19.out.mod0 hm23)
    have z23 := Lib.hid (ByAt.of_ow ho23 (nb_small _))
    clear hm23 ho23 hf23
    go_wp2_with fail
    refine hK.out _ _ (hM23.out) (fun hHeld => ?_)
    clear hK K
    try simp only [Act.put, List.getElem_toArray, List.getElem_cons_zero, List.getElem_cons_succ, List.setIfInBounds_toArray, List.set_cons_zero, List.set_cons_succ]
    have hbs : Hid (BsAt (w23.alloc (.cells #[.slice A3 (nb o.c).length c3, .slice A7 (nb o.s).length c7, .slice A10 (nb o.k).length c10, .slice A13 (txtB o.acct).length c13, .slice A16 (txtB o.peer).length c16, .slice A19 (nb o.sum).length c19, .slice A23 (nb (L.n : Int)).length c23] 22)) (some ⟨w23.heap.size, 0, none⟩) 7 [⟨A3, (nb o.c).length, c3⟩, ⟨A7, (nb o.s).length, c7⟩, ⟨A10, (nb o.k).length, c10⟩, ⟨A13, (txtB o.acct).length, c13⟩, ⟨A16, (txtB o.peer).length, c16⟩, ⟨A19, (nb o.sum).length, c19⟩, ⟨A23, (nb (L.n : Int)).length, c23⟩] [nb o.c, nb o.s, nb o.k, txtB o.acct, txtB o.peer, nb o.sum, nb (L.n : Int)]) := Lib.hid (bsAt_all w23 22 [⟨A3, (nb o.c).length, c3⟩, ⟨A7, (nb o.s).length, c7⟩, ⟨A10, (nb o.k).length, c10⟩, ⟨A13, (txtB o.acct).length, c13⟩, ⟨A16, (txtB o.peer).length, c16⟩, ⟨A19, (nb o.sum).length, c19⟩, ⟨A23, (nb (L.n : Int)).length, c23⟩] [nb o.c, nb o.s, nb o.k, txtB o.acct, txtB o.peer, nb o.sum, nb (L.n : Int)] ⟨z3.out, z7.out, z10.out, z13.out, z16.out, z19.out, z23.out, trivial⟩)
    refine wpAnyH_ready (rs := [24]) (by kernel_rfl) (by simp) ?_
    refine AllReadyH.cons rfl (fun K hK => ?_) AllReadyH.nil
    go_simp
    refine hK.out _ _ (hM23.out.alloc _) (fun hHeld => ?_)
    clear hK K
    try simp only [Act.put, List.getElem_toArray, List.getElem_cons_zero, List.getElem_cons_succ, List.setIfInBounds_toArray, List.set_cons_zero, List.set_cons_succ]
    have hfl : [nb o.c, nb o.s, nb o.k, txtB o.acct, txtB o.peer, nb o.sum, nb (L.n : Int)].flatten = headO o := by rw [← hlen.out]; simp [headO]
    have kc := concatB_ok _ _ 7 7 _ _ hbs.out (by omega)
    rw [hfl] at kc
    refine wpAnyH_ready (rs := [25]) (by kernel_rfl) (by simp) ?_
    refine AllReadyH.cons rfl (fun K hK => ?_) AllReadyH.nil
    go_simp
    (with_reducible refine kc.mono ?_); rintro e25 w25 ⟨A25, c25, rfl, ho25, hf25, hm25⟩; dsimp only
    have hM25 := Lib.hid ((hM23.out.alloc _).trans hm25)
    have z25 := Lib.hid (ByAt.of_ow ho25 (by have := headO_len k4 k5; omega))
    clear hm25 ho25 hf25 hbs kc hfl z3 z7 z10 z13 z16 z19 z23
    go_wp2_with fail
    refine hK.out _ _ (hM25.out) (fun hHeld => ?_)
    clear hK K
    try simp only [Act.put, List.getElem_toArray, List.getElem_cons_zero, List.getElem_cons_succ, List.setIfInBounds_toArray, List.set_cons_zero, List.set_cons_succ]
    refine wpAnyH_take (i := 26) (v := ?_) rfl (by kernel_rfl) (by kernel_rfl) (by kernel_rfl) (fun _ _ _ h => h) (Or.inl ⟨by rfl, ?_⟩) (by assumption) ?_
    rotate_left
    · intro W hSw; (try dsimp only at hSw); go_simp; (try with_reducible rfl)
    try simp only [Act.put, List.getElem_toArray, List.getElem_cons_zero, List.getElem_cons_succ, List.setIfInBounds_toArray, List.set_cons_zero, List.set_cons_succ]
    refine wpAnyH_done (by kernel_rfl) ?_ _
    clear hHeld hM0 hM3 hM7 hM10 hM13 hM16 hM19 hM23
    obtain ⟨s0, s1, s2, s3, s4, s5, s6, s7, s8, s9⟩ := kC.out w25 hM25.out
    have hll : (headO o).length ≤ 100 := headO_len k4 k5
    generalize hn25 : (headO o).length = n25 at *
    replace hn25 := Lib.hid hn25
    go_wp2_with fail
    clear s0 s1 s2 s3 s4 s5 s6 s7 s8 s9
    go_loopw [4, 39] (fun v x wr => ∃ j : Nat, x = .int .i64 j ∧ j ≤ L.n ∧ ∃ A n c, v = .slice A n c ∧ n ≤ 100 + j * 30 ∧ ByAt wr ⟨A, n, c⟩ (headO o ++ (o.legs.take j).flatMap legB) ∧ Mod none_ w1 wr) (fun _ x _ => L.n - (intOf x).toNat)
    case atStart => exact ⟨0, rfl, by omega, A25, n25, c25, rfl, by omega, by simpa using z25.out, hM25.out⟩
    case round =>
      obtain ⟨j, rfl, hj, A, n, c, rfl, hnj, hz4, hM⟩ := hrel
      by_cases hlt : j < L.n
      · obtain ⟨b, p, l, hLa, hlm, hlj, x1, x2⟩ := rdl_get ((hrd.out.mod0 hmm.out).mod0 hM) hlt
        obtain ⟨hl8, hlx⟩ := k8.out l hlm
        rw [hLa]
        replace hz4 := Lib.hid hz4
        replace hM := Lib.hid hM
        replace hlm := Lib.hid hlm
        replace hlj := Lib.hid hlj
        replace hlx := Lib.hid hlx
        go_wp2_with fail
        have hB6 := Blk.new wr 96 #[.string (txt l.n), .int .i64 l.x]
        have kC6 := Lib.hid (fun W (h : Mod none_ (wr.alloc (.cells #[.string (txt l.n), .int .i64 l.x] 96)) W) => (⟨(hB6.mod h (fun h => h)).cell_ rfl, (hB6.mod h (fun h => h)).cell_ rfl⟩ : W.cell? ⟨wr.heap.size, 0, none⟩ = some (.string (txt l.n)) ∧ W.cell? ⟨wr.heap.size, 1, none⟩ = some (.int .i64 l.x)))
        have hMl := Lib.hid (hM.out.alloc (.cells #[.string (txt l.n), .int .i64 l.x] 96))
        have hM0 := Lib.hid ((Mod.refl none_ (wr.alloc (.cells #[.string (txt l.n), .int .i64 l.x] 96))).drew)
        have z0 := Lib.hid (hz4.out.mod0 (((Mod.refl none_ wr).alloc (.cells #[.string (txt l.n), .int .i64 l.x] 96)).drew))
        clear hB6
        refine wp_region_held_drew (S := fun W => Mod none_ (wr.alloc (.cells #[.string (txt l.n), .int .i64 l.x] 96)) W) (by kernel_rfl) hM0.out (fun hHeld => ?_)
        refine wpAnyH_take (i := 0) (v := ?_) rfl (by kernel_rfl) (by kernel_rfl) (by kernel_rfl) (fun _ _ _ h => h) (Or.inl ⟨by rfl, ?_⟩) (by assumption) ?_
        rotate_left
        · intro W hSw; (try dsimp only at hSw); go_simp; (try with_reducible rfl)
        try simp only [Act.put, List.getElem_toArray, List.getElem_cons_zero, List.getElem_cons_succ, List.setIfInBounds_toArray, List.set_cons_zero, List.set_cons_succ]
        refine wpAnyH_take (i := 1) (v := ?_) rfl (by kernel_rfl) (by kernel_rfl) (by kernel_rfl) (fun _ _ _ h => h) (Or.inl ⟨by rfl, ?_⟩) (by assumption) ?_
        rotate_left
        · intro W hSw; (try dsimp only at hSw); go_simp; (try with_reducible rfl)
        try simp only [Act.put, List.getElem_toArray, List.getElem_cons_zero, List.getElem_cons_succ, List.setIfInBounds_toArray, List.set_cons_zero, List.set_cons_succ]
        refine wpAnyH_take (i := 4) (v := ?_) rfl (by kernel_rfl) (by kernel_rfl) (by kernel_rfl) (fun _ _ _ h => h) (Or.inl ⟨by rfl, ?_⟩) (by assumption) ?_
        rotate_left
        · intro W hSw; (try dsimp only at hSw); go_simp; (try with_reducible rfl)
        try simp only [Act.put, List.getElem_toArray, List.getElem_cons_zero, List.getElem_cons_succ, List.setIfInBounds_toArray, List.set_cons_zero, List.set_cons_succ]
        refine wpAnyH_take (i := 2) (v := ?_) rfl (by kernel_rfl) (by kernel_rfl) (by kernel_rfl) (fun _ _ _ h => h) (Or.inl ⟨by rfl, ?_⟩) (by assumption) ?_
        rotate_left
        · intro W hSw; obtain ⟨s0, s1⟩ := kC6.out W hSw; go_simp; (try with_reducible rfl)
        try simp only [Act.put, List.getElem_toArray, List.getElem_cons_zero, List.getElem_cons_succ, List.setIfInBounds_toArray, List.set_cons_zero, List.set_cons_succ]
        refine wpAnyH_take (i := 5) (v := ?_) rfl (by kernel_rfl) (by kernel_rfl) (by kernel_rfl) (fun _ _ _ h => h) (Or.inl ⟨by rfl, ?_⟩) (by assumption) ?_
        rotate_left
        · intro W hSw; obtain ⟨s0, s1⟩ := kC6.out W hSw; go_simp; (try with_reducible rfl)
        try simp only [Act.put, List.getElem_toArray, List.getElem_cons_zero, List.getElem_cons_succ, List.setIfInBounds_toArray, List.set_cons_zero, List.set_cons_succ]
        refine wpAnyH_ready (rs := [3]) (by kernel_rfl) (by simp) ?_
        refine AllReadyH.cons rfl (fun K hK => ?_) AllReadyH.nil
        go_simp
        (with_reducible refine (text_ok _ l.n (by omega)).mono ?_); rintro e3 w3 ⟨A3, c3, rfl, ho3, hf3, hm3⟩; dsimp only
        have hM3 := Lib.hid (hM0.out.trans hm3)
        replace z0 := Lib.hid (z0.out.mod0 hm3)
        have z3 := Lib.hid (ByAt.of_ow ho3 (txtB_small (by omega)))
        clear hm3 ho3 hf3
        go_wp2_with fail
        refine hK.out _ _ (hM3.out) (fun hHeld => ?_)
        clear hK K
        try simp only [Act.put, List.getElem_toArray, List.getElem_cons_zero, List.getElem_cons_succ, List.setIfInBounds_toArray, List.set_cons_zero, List.set_cons_succ]
        refine wpAnyH_ready (rs := [6]) (by kernel_rfl) (by simp) ?_
        refine AllReadyH.cons rfl (fun K hK => ?_) AllReadyH.nil
        go_simp
        (with_reducible refine (numB_ok _ l.x hlx.out).mono ?_); rintro e6 w6 ⟨A6, c6, rfl, ho6, hf6, hm6⟩; dsimp only
        have hM6 := Lib.hid (hM3.out.trans hm6)
        replace z0 := Lib.hid (z0.out.mod0 hm6)
        replace z3 := Lib.hid (z3.out.mod0 hm6)
        have z6 := Lib.hid (ByAt.of_ow ho6 (nb_small _))
        clear hm6 ho6 hf6
        go_wp2_with fail
        refine hK.out _ _ (hM6.out) (fun hHeld => ?_)
        clear hK K
        try simp only [Act.put, List.getElem_toArray, List.getElem_cons_zero, List.getElem_cons_succ, List.setIfInBounds_toArray, List.set_cons_zero, List.set_cons_succ]
        have hbs : Hid (BsAt (w6.alloc (.cells #[.slice A n c, .slice A3 (txtB l.n).length c3, .slice A6 (nb l.x).length c6] 22)) (some ⟨w6.heap.size, 0, none⟩) 3 [⟨A, n, c⟩, ⟨A3, (txtB l.n).length, c3⟩, ⟨A6, (nb l.x).length, c6⟩] [headO o ++ (o.legs.take j).flatMap legB, txtB l.n, nb l.x]) :=
          Lib.hid (bsAt_all w6 22 [⟨A, n, c⟩, ⟨A3, (txtB l.n).length, c3⟩, ⟨A6, (nb l.x).length, c6⟩] [headO o ++ (o.legs.take j).flatMap legB, txtB l.n, nb l.x] ⟨z0.out, z3.out, z6.out, trivial⟩)
        refine wpAnyH_ready (rs := [7]) (by kernel_rfl) (by simp) ?_
        refine AllReadyH.cons rfl (fun K hK => ?_) AllReadyH.nil
        go_simp
        refine hK.out _ _ (hM6.out.alloc _) (fun hHeld => ?_)
        clear hK K
        try simp only [Act.put, List.getElem_toArray, List.getElem_cons_zero, List.getElem_cons_succ, List.setIfInBounds_toArray, List.set_cons_zero, List.set_cons_succ]
        have hfl : [headO o ++ (o.legs.take j).flatMap legB, txtB l.n, nb l.x].flatten = headO o ++ (o.legs.take (j + 1)).flatMap legB := by
          rw [List.take_add_one, hlj.out]
          simp [legB]
        have kc := concatB_ok _ _ 3 3 _ _ hbs.out (by omega)
        rw [hfl] at kc
        have hle : (headO o ++ (o.legs.take (j + 1)).flatMap legB).length ≤ 100 + (j + 1) * 30 := by
          rw [← hfl]
          have h1 := z0.out.rd.len
          have h2 := txtB_len l.n
          have h3 := nb_len l.x
          dsimp only at h1
          simp only [List.flatten_cons, List.flatten_nil, List.length_append, List.length_nil] at h1 ⊢
          omega
        have hj6 : j + 1 ≤ 6 := by have := hlen.out; omega
        obtain ⟨l8, hl8⟩ : ∃ l8, l8 = headO o ++ (o.legs.take (j + 1)).flatMap legB := ⟨_, rfl⟩
        rw [← hl8] at kc hle
        replace hl8 := Lib.hid hl8
        refine wpAnyH_ready (rs := [8]) (by kernel_rfl) (by simp) ?_
        refine AllReadyH.cons rfl (fun K hK => ?_) AllReadyH.nil
        go_simp
        (with_reducible refine kc.mono ?_); rintro e8 w8 ⟨A8, c8, rfl, ho8, hf8, hm8⟩; dsimp only
        have hM8 := Lib.hid ((hM6.out.alloc _).trans hm8)
        have z8 := Lib.hid (ByAt.of_ow ho8 (by omega))
        clear hm8 ho8 hf8 hbs kc hfl z0 z3 z6
        go_wp2_with fail
        refine hK.out _ _ (hM8.out) (fun hHeld => ?_)
        clear hK K
        try simp only [Act.put, List.getElem_toArray, List.getElem_cons_zero, List.getElem_cons_succ, List.setIfInBounds_toArray, List.set_cons_zero, List.set_cons_succ]
        refine wpAnyH_take (i := 9) (v := ?_) rfl (by kernel_rfl) (by kernel_rfl) (by kernel_rfl) (fun _ _ _ h => h) (Or.inl ⟨by rfl, ?_⟩) (by assumption) ?_
        rotate_left
        · intro W hSw; (try dsimp only at hSw); go_simp; (try with_reducible rfl)
        try simp only [Act.put, List.getElem_toArray, List.getElem_cons_zero, List.getElem_cons_succ, List.setIfInBounds_toArray, List.set_cons_zero, List.set_cons_succ]
        refine wpAnyH_done (by kernel_rfl) ?_ _
        clear hHeld hM0 hM3 hM6
        go_wp2_with fail
        go_roundw
        case rel => exact ⟨j + 1, by go_num, by omega, A8, l8.length, c8, rfl, hle, by rw [← hl8.out]; exact z8.out, hMl.out.trans hM8.out⟩
        case measure => simp [intOf]; omega
      · have hjl : j = L.n := by omega
        subst hjl
        rw [List.take_of_length_le (by have := hlen.out; omega)] at hz4
        replace hz4 := Lib.hid hz4
        replace hM := Lib.hid hM
        have hM0 := Lib.hid (hM.out.drew)
        have z0 := Lib.hid (hz4.out.mod0 (Mod.refl none_ wr).drew)
        go_wp2_with fail
        refine wp_region_held_drew (S := fun W => Mod none_ w1 W) (by kernel_rfl) hM0.out (fun hHeld => ?_)
        refine wpAnyH_take (i := 0) (v := ?_) rfl (by kernel_rfl) (by kernel_rfl) (by kernel_rfl) (fun _ _ _ h => h) (Or.inl ⟨by rfl, ?_⟩) (by assumption) ?_
        rotate_left
        · intro W hSw; (try dsimp only at hSw); go_simp; (try with_reducible rfl)
        try simp only [Act.put, List.getElem_toArray, List.getElem_cons_zero, List.getElem_cons_succ, List.setIfInBounds_toArray, List.set_cons_zero, List.set_cons_succ]
        refine wpAnyH_take (i := 1) (v := ?_) rfl (by kernel_rfl) (by kernel_rfl) (by kernel_rfl) (fun _ _ _ h => h) (Or.inl ⟨by rfl, ?_⟩) (by assumption) ?_
        rotate_left
        · intro W hSw; (try dsimp only at hSw); go_simp; (try with_reducible rfl)
        try simp only [Act.put, List.getElem_toArray, List.getElem_cons_zero, List.getElem_cons_succ, List.setIfInBounds_toArray, List.set_cons_zero, List.set_cons_succ]
        refine wpAnyH_take (i := 4) (v := ?_) rfl (by kernel_rfl) (by kernel_rfl) (by kernel_rfl) (fun _ _ _ h => h) (Or.inl ⟨by rfl, ?_⟩) (by assumption) ?_
        rotate_left
        · intro W hSw; (try dsimp only at hSw); go_simp; (try with_reducible rfl)
        try simp only [Act.put, List.getElem_toArray, List.getElem_cons_zero, List.getElem_cons_succ, List.setIfInBounds_toArray, List.set_cons_zero, List.set_cons_succ]
        refine wpAnyH_take (i := 7) (v := ?_) rfl (by kernel_rfl) (by kernel_rfl) (by kernel_rfl) (fun _ _ _ h => h) (Or.inl ⟨by rfl, ?_⟩) (by assumption) ?_
        rotate_left
        · intro W hSw; (try dsimp only at hSw); go_simp; (try with_reducible rfl)
        try simp only [Act.put, List.getElem_toArray, List.getElem_cons_zero, List.getElem_cons_succ, List.setIfInBounds_toArray, List.set_cons_zero, List.set_cons_succ]
        refine wpAnyH_take (i := 2) (v := ?_) rfl (by kernel_rfl) (by kernel_rfl) (by kernel_rfl) (fun _ _ _ h => h) (Or.inl ⟨by rfl, ?_⟩) (by assumption) ?_
        rotate_left
        · intro W hSw; obtain ⟨s0, s1, s2, s3, s4, s5, s6, s7, s8, s9⟩ := kC.out W hSw; go_simp; (try with_reducible rfl)
        try simp only [Act.put, List.getElem_toArray, List.getElem_cons_zero, List.getElem_cons_succ, List.setIfInBounds_toArray, List.set_cons_zero, List.set_cons_succ]
        refine wpAnyH_take (i := 5) (v := ?_) rfl (by kernel_rfl) (by kernel_rfl) (by kernel_rfl) (fun _ _ _ h => h) (Or.inl ⟨by rfl, ?_⟩) (by assumption) ?_
        rotate_left
        · intro W hSw; obtain ⟨s0, s1, s2, s3, s4, s5, s6, s7, s8, s9⟩ := kC.out W hSw; go_simp; (try with_reducible rfl)
        try simp only [Act.put, List.getElem_toArray, List.getElem_cons_zero, List.getElem_cons_succ, List.setIfInBounds_toArray, List.set_cons_zero, List.set_cons_succ]
        refine wpAnyH_take (i := 8) (v := ?_) rfl (by kernel_rfl) (by kernel_rfl) (by kernel_rfl) (fun _ _ _ h => h) (Or.inl ⟨by rfl, ?_⟩) (by assumption) ?_
        rotate_left
        · intro W hSw; obtain ⟨s0, s1, s2, s3, s4, s5, s6, s7, s8, s9⟩ := kC.out W hSw; go_simp; (try with_reducible rfl)
        try simp only [Act.put, List.getElem_toArray, List.getElem_cons_zero, List.getElem_cons_succ, List.setIfInBounds_toArray, List.set_cons_zero, List.set_cons_succ]
        refine wpAnyH_ready (rs := [3]) (by kernel_rfl) (by simp) ?_
        refine AllReadyH.cons rfl (fun K hK => ?_) AllReadyH.nil
        go_simp
        (with_reducible refine (onum_ok _ o.per (in64_mk (by omega) (by omega))).mono ?_); rintro e3 w3 ⟨A3, c3, rfl, ho3, hf3, hm3⟩; dsimp only
        have hM3 := Lib.hid (hM0.out.trans hm3)
        replace z0 := Lib.hid (z0.out.mod0 hm3)
        have z3 := Lib.hid (ByAt.of_ow ho3 (nb_small _))
        clear hm3 ho3 hf3
        go_wp2_with fail
        refine hK.out _ _ (hM3.out) (fun hHeld => ?_)
        clear hK K
        try simp only [Act.put, List.getElem_toArray, List.getElem_cons_zero, List.getElem_cons_succ, List.setIfInBounds_toArray, List.set_cons_zero, List.set_cons_succ]
        refine wpAnyH_ready (rs := [6]) (by kernel_rfl) (by simp) ?_
        refine AllReadyH.cons rfl (fun K hK => ?_) AllReadyH.nil
        go_simp
        (with_reducible refine (onum_ok _ o.hold (in64_mk (by omega) (by omega))).mono ?_); rintro e6 w6 ⟨A6, c6, rfl, ho6, hf6, hm6⟩; dsimp only
        have hM6 := Lib.hid (hM3.out.trans hm6)
        replace z0 := Lib.hid (z0.out.mod0 hm6)
        replace z3 := Lib.hid (z3.out.mod0 hm6)
        have z6 := Lib.hid (ByAt.of_ow ho6 (nb_small _))
        clear hm6 ho6 hf6
        go_wp2_with fail
        refine hK.out _ _ (hM6.out) (fun hHeld => ?_)
        clear hK K
        try simp only [Act.put, List.getElem_toArray, List.getElem_cons_zero, List.getElem_cons_succ, List.setIfInBounds_toArray, List.set_cons_zero, List.set_cons_succ]
        refine wpAnyH_ready (rs := [9]) (by kernel_rfl) (by simp) ?_
        refine AllReadyH.cons rfl (fun K hK => ?_) AllReadyH.nil
        go_simp
        (with_reducible refine (text_ok _ o.note (by omega)).mono ?_); rintro e9 w9 ⟨A9, c9, rfl, ho9, hf9, hm9⟩; dsimp only
        have hM9 := Lib.hid (hM6.out.trans hm9)
        replace z0 := Lib.hid (z0.out.mod0 hm9)
        replace z3 := Lib.hid (z3.out.mod0 hm9)
        replace z6 := Lib.hid (z6.out.mod0 hm9)
        have z9 := Lib.hid (ByAt.of_ow ho9 (txtB_small (by omega)))
        clear hm9 ho9 hf9
        go_wp2_with fail
        refine hK.out _ _ (hM9.out) (fun hHeld => ?_)
        clear hK K
        try simp only [Act.put, List.getElem_toArray, List.getElem_cons_zero, List.getElem_cons_succ, List.setIfInBounds_toArray, List.set_cons_zero, List.set_cons_succ]
        have hbs : Hid (BsAt (w9.alloc (.cells #[.slice A n c, .slice A3 (nb o.per).length c3, .slice A6 (nb o.hold).length c6, .slice A9 (txtB o.note).length c9] 22)) (some ⟨w9.heap.size, 0, none⟩) 4 [⟨A, n, c⟩, ⟨A3, (nb o.per).length, c3⟩, ⟨A6, (nb o.hold).length, c6⟩, ⟨A9, (txtB o.note).length, c9⟩] [headO o ++ o.legs.flatMap legB, nb o.per, nb o.hold, txtB o.note]) :=
          Lib.hid (bsAt_all w9 22 [⟨A, n, c⟩, ⟨A3, (nb o.per).length, c3⟩, ⟨A6, (nb o.hold).length, c6⟩, ⟨A9, (txtB o.note).length, c9⟩] [headO o ++ o.legs.flatMap legB, nb o.per, nb o.hold, txtB o.note] ⟨z0.out, z3.out, z6.out, z9.out, trivial⟩)
        refine wpAnyH_ready (rs := [10]) (by kernel_rfl) (by simp) ?_
        refine AllReadyH.cons rfl (fun K hK => ?_) AllReadyH.nil
        go_simp
        refine hK.out _ _ (hM9.out.alloc _) (fun hHeld => ?_)
        clear hK K
        try simp only [Act.put, List.getElem_toArray, List.getElem_cons_zero, List.getElem_cons_succ, List.setIfInBounds_toArray, List.set_cons_zero, List.set_cons_succ]
        have hfl : [headO o ++ o.legs.flatMap legB, nb o.per, nb o.hold, txtB o.note].flatten = orderB o := by
          rw [orderB_head]
          simp
        have kc := concatB_ok _ _ 4 4 _ _ hbs.out (by omega)
        rw [hfl] at kc
        refine wpAnyH_ready (rs := [11]) (by kernel_rfl) (by simp) ?_
        refine AllReadyH.cons rfl (fun K hK => ?_) AllReadyH.nil
        go_simp
        (with_reducible refine kc.mono ?_); rintro e11 w11 ⟨A11, c11, rfl, ho11, hf11, hm11⟩; dsimp only
        have hM11 := Lib.hid ((hM9.out.alloc _).trans hm11)
        have hf := Lib.hid (hf11.later (hmm.out.trans (hM9.out.alloc _)).size)
        replace ho11 := Lib.hid ho11
        clear hm11 hf11 hbs kc hfl z0 z3 z6 z9
        go_wp2_with fail
        refine hK.out _ _ (hM11.out) (fun hHeld => ?_)
        clear hK K
        try simp only [Act.put, List.getElem_toArray, List.getElem_cons_zero, List.getElem_cons_succ, List.setIfInBounds_toArray, List.set_cons_zero, List.set_cons_succ]
        refine wpAnyH_take (i := 12) (v := ?_) rfl (by kernel_rfl) (by kernel_rfl) (by kernel_rfl) (fun _ _ _ h => h) (Or.inl ⟨by rfl, ?_⟩) (by assumption) ?_
        rotate_left
        · intro W hSw; (try dsimp only at hSw); go_simp; (try with_reducible rfl)
        try simp only [Act.put, List.getElem_toArray, List.getElem_cons_zero, List.getElem_cons_succ, List.setIfInBounds_toArray, List.set_cons_zero, List.set_cons_succ]
        refine wpAnyH_take (i := 13) (v := ?_) rfl (by kernel_rfl) (by kernel_rfl) (by kernel_rfl) (fun _ _ _ h => h) (Or.inl ⟨by rfl, ?_⟩) (by assumption) ?_
        rotate_left
        · intro W hSw; (try dsimp only at hSw); go_simp; (try with_reducible rfl)
        try simp only [Act.put, List.getElem_toArray, List.getElem_cons_zero, List.getElem_cons_succ, List.setIfInBounds_toArray, List.set_cons_zero, List.set_cons_succ]
        refine wpAnyH_done (by kernel_rfl) ?_ _
        clear hHeld hM0 hM3 hM6 hM9
        generalize hlo : orderB o = lo at *
        replace hlo := Lib.hid hlo
        go_wp2_with fail
        go_ret2
        exact .inl ⟨hr.out, A11, c11, rfl, ho11.out, hf.out, hmm.out.trans hM11.out⟩
end Go.Proofs.YtimlfdihodoolaaGreat
