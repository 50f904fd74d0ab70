import Derived.Test.YtfkfiokkjjnhiaaGreatUp7
import Derived.Test.YtfkfiokkjjnhiaaGreatUp4
set_option linter.unusedVariables false
set_option linter.unusedSimpArgs false
set_option maxHeartbeats 16000000
namespace Go.Proofs.YtfkfiokkjjnhiaaGreat
open Go.RowKit
def slotB (r : Rc) : Bool := decide (0 ≤ r.bal ∧ r.bal ≤ 1000000 ∧ 0 ≤ r.by_ ∧ r.by_ ≤ r.bal)
def stateB (r : Rc) : Bool :=
 if r.st = 0 then decide (r.by_ = 0) && decide (r.e = en0)
 else if r.st = 1 ∨ r.st = 2 ∨ r.st = 3 then decide (r.e.deps.length ≤ 100) && rightE r.i r.e
 else false
def rightR (r : Rc) : Bool := rightI r.i && (slotB r && stateB r)
theorem rightE_none (i : Is) : rightE i ⟨od0, true, []⟩ = rightI i := by
 unfold rightE depsB
 simp
set_option maxRecDepth 100000
theorem rightR_ok (w : World) (r : Rc) (L D : SV) (hE : EnM w r.e L D) (hL : L.n ≤ 140737488355328) (hD : D.n ≤ 140737488355328) (hk : (Lit.int .i64 r.e.o.k).wf = true) (hz : ∀ l ∈ r.e.o.legs, (txt l.n).size ≤ maxLen) :
  Calls Tryz.prog 180 #[.agg #[.int .i64 r.i.r, .int .i64 r.i.n, .int .i64 r.bal, .int .i64 r.st, .int .i64 r.by_, .int .i64 r.e.o.c, .int .i64 r.e.o.s, .int .i64 r.e.o.k, .string (txt r.e.o.acct), .string (txt r.e.o.peer), .int .i64 r.e.o.sum, .slice L.a L.n L.c, .int .i64 r.e.o.per, .int .i64 r.e.o.hold, .string (txt r.e.o.note), .bool r.e.none, .slice D.a D.n D.c]] w fun e' w' => e' = .returned (.bool (rightR r)) ∧ Mod none_ w w' := by
 have k1 := zH (fun W => rightE_ok W r.i ⟨od0, true, []⟩ ⟨none, 0, 0⟩ ⟨none, 0, 0⟩ ⟨od0_mem W, Rd.none_, Nat.le_refl _⟩ (by decide) (by decide) (by decide) (fun l h => by cases h))
 rw [rightE_none] at k1
 have k2 := zH (fun W (h : Mod none_ w W) => rightE_ok W r.i r.e L D (hE.mod0 h) hL hD hk hz)
 have k3 := zH (fun W (h : Mod none_ w W) => sameE_ok W r.e en0 L D ⟨none, 0, 0⟩ ⟨none, 0, 0⟩ (hE.mod0 h) (en0_mem W) hL hD (by decide) (by decide))
 have hlen := hE.rd.len
 have hB1 : Blk ((w.alloc (.cells #[.int .i64 r.i.r, .int .i64 r.i.n, .int .i64 r.bal, .int .i64 r.st, .int .i64 r.by_, .int .i64 r.e.o.c, .int .i64 r.e.o.s, .int .i64 r.e.o.k, .string (txt r.e.o.acct), .string (txt r.e.o.peer), .int .i64 r.e.o.sum, .slice L.a L.n L.c, .int .i64 r.e.o.per, .int .i64 r.e.o.hold, .string (txt r.e.o.note), .bool r.e.none, .slice D.a D.n D.c] 57)).alloc (.cells #[.int .i64 r.bal, .int .i64 r.st, .int .i64 r.by_, .int .i64 r.e.o.c, .int .i64 r.e.o.s, .int .i64 r.e.o.k, .string (txt r.e.o.acct), .string (txt r.e.o.peer), .int .i64 r.e.o.sum, .slice L.a L.n L.c, .int .i64 r.e.o.per, .int .i64 r.e.o.hold, .string (txt r.e.o.note), .bool r.e.none, .slice D.a D.n D.c] 55)) w.heap.size 57 #[.int .i64 r.i.r, .int .i64 r.i.n, .int .i64 r.bal, .int .i64 r.st, .int .i64 r.by_, .int .i64 r.e.o.c, .int .i64 r.e.o.s, .int .i64 r.e.o.k, .string (txt r.e.o.acct), .string (txt r.e.o.peer), .int .i64 r.e.o.sum, .slice L.a L.n L.c, .int .i64 r.e.o.per, .int .i64 r.e.o.hold, .string (txt r.e.o.note), .bool r.e.none, .slice D.a D.n D.c] := (Blk.new w _ _).alloc _
 have hB2 : Blk ((w.alloc (.cells #[.int .i64 r.i.r, .int .i64 r.i.n, .int .i64 r.bal, .int .i64 r.st, .int .i64 r.by_, .int .i64 r.e.o.c, .int .i64 r.e.o.s, .int .i64 r.e.o.k, .string (txt r.e.o.acct), .string (txt r.e.o.peer), .int .i64 r.e.o.sum, .slice L.a L.n L.c, .int .i64 r.e.o.per, .int .i64 r.e.o.hold, .string (txt r.e.o.note), .bool r.e.none, .slice D.a D.n D.c] 57)).alloc (.cells #[.int .i64 r.bal, .int .i64 r.st, .int .i64 r.by_, .int .i64 r.e.o.c, .int .i64 r.e.o.s, .int .i64 r.e.o.k, .string (txt r.e.o.acct), .string (txt r.e.o.peer), .int .i64 r.e.o.sum, .slice L.a L.n L.c, .int .i64 r.e.o.per, .int .i64 r.e.o.hold, .string (txt r.e.o.note), .bool r.e.none, .slice D.a D.n D.c] 55)) (w.heap.size + 1) 55 #[.int .i64 r.bal, .int .i64 r.st, .int .i64 r.by_, .int .i64 r.e.o.c, .int .i64 r.e.o.s, .int .i64 r.e.o.k, .string (txt r.e.o.acct), .string (txt r.e.o.peer), .int .i64 r.e.o.sum, .slice L.a L.n L.c, .int .i64 r.e.o.per, .int .i64 r.e.o.hold, .string (txt r.e.o.note), .bool r.e.none, .slice D.a D.n D.c] := heap_alloc2_new w _ _
 have hm0 := ((Mod.refl none_ w).alloc (.cells #[.int .i64 r.i.r, .int .i64 r.i.n, .int .i64 r.bal, .int .i64 r.st, .int .i64 r.by_, .int .i64 r.e.o.c, .int .i64 r.e.o.s, .int .i64 r.e.o.k, .string (txt r.e.o.acct), .string (txt r.e.o.peer), .int .i64 r.e.o.sum, .slice L.a L.n L.c, .int .i64 r.e.o.per, .int .i64 r.e.o.hold, .string (txt r.e.o.note), .bool r.e.none, .slice D.a D.n D.c] 57)).alloc (.cells #[.int .i64 r.bal, .int .i64 r.st, .int .i64 r.by_, .int .i64 r.e.o.c, .int .i64 r.e.o.s, .int .i64 r.e.o.k, .string (txt r.e.o.acct), .string (txt r.e.o.peer), .int .i64 r.e.o.sum, .slice L.a L.n L.c, .int .i64 r.e.o.per, .int .i64 r.e.o.hold, .string (txt r.e.o.note), .bool r.e.none, .slice D.a D.n D.c] 55)
 have hrr : rightR r = (rightI r.i && (slotB r && stateB r)) := rfl
 have hsl : slotB r = decide (0 ≤ r.bal ∧ r.bal ≤ 1000000 ∧ 0 ≤ r.by_ ∧ r.by_ ≤ r.bal) := rfl
 have hst : stateB r = (if r.st = 0 then decide (r.by_ = 0) && decide (r.e = en0) else if r.st = 1 ∨ r.st = 2 ∨ r.st = 3 then decide (r.e.deps.length ≤ 100) && rightE r.i r.e else false) := rfl
 replace hE := zH hE
 replace hk := zH hk
 replace hz := zH hz
 replace hlen := zH hlen
 replace hB1 := zH hB1
 replace hB2 := zH hB2
 replace hm0 := zH hm0
 replace hrr := zH hrr
 replace hsl := zH hsl
 replace hst := zH hst
 go_enter Tryz.func180, Tryz.ntmps180
 go_wp2_with fail
 refine (k1.out _).mono ?_
 rintro e' w1 ⟨rfl, hm1⟩
 dsimp only
 have hB3 := hB1.out.mod hm1 (fun h => h)
 have hB4 := hB2.out.mod hm1 (fun h => h)
 replace hm1 := hm0.out.trans hm1
 have s0 : w1.cell? ⟨w.heap.size + 1, 0, none⟩ = some (.int .i64 r.bal) := hB4.cell_ rfl
 have s1 : w1.cell? ⟨w.heap.size + 1, 1, none⟩ = some (.int .i64 r.st) := hB4.cell_ rfl
 have s2 : w1.cell? ⟨w.heap.size + 1, 2, none⟩ = some (.int .i64 r.by_) := hB4.cell_ rfl
 have s3 : w1.cell? ⟨w.heap.size + 1, 3, none⟩ = some (.int .i64 r.e.o.c) := hB4.cell_ rfl
 have s4 : w1.cell? ⟨w.heap.size + 1, 4, none⟩ = some (.int .i64 r.e.o.s) := hB4.cell_ rfl
 have s5 : w1.cell? ⟨w.heap.size + 1, 5, none⟩ = some (.int .i64 r.e.o.k) := hB4.cell_ rfl
 have s6 : w1.cell? ⟨w.heap.size + 1, 6, none⟩ = some (.string (txt r.e.o.acct)) := hB4.cell_ rfl
 have s7 : w1.cell? ⟨w.heap.size + 1, 7, none⟩ = some (.string (txt r.e.o.peer)) := hB4.cell_ rfl
 have s8 : w1.cell? ⟨w.heap.size + 1, 8, none⟩ = some (.int .i64 r.e.o.sum) := hB4.cell_ rfl
 have s9 : w1.cell? ⟨w.heap.size + 1, 9, none⟩ = some (.slice L.a L.n L.c) := hB4.cell_ rfl
 have s10 : w1.cell? ⟨w.heap.size + 1, 10, none⟩ = some (.int .i64 r.e.o.per) := hB4.cell_ rfl
 have s11 : w1.cell? ⟨w.heap.size + 1, 11, none⟩ = some (.int .i64 r.e.o.hold) := hB4.cell_ rfl
 have s12 : w1.cell? ⟨w.heap.size + 1, 12, none⟩ = some (.string (txt r.e.o.note)) := hB4.cell_ rfl
 have s13 : w1.cell? ⟨w.heap.size + 1, 13, none⟩ = some (.bool r.e.none) := hB4.cell_ rfl
 have s14 : w1.cell? ⟨w.heap.size + 1, 14, none⟩ = some (.slice D.a D.n D.c) := hB4.cell_ rfl
 have p0 : w1.cell? ⟨w.heap.size, 0, none⟩ = some (.int .i64 r.i.r) := hB3.cell_ rfl
 have p1 : w1.cell? ⟨w.heap.size, 1, none⟩ = some (.int .i64 r.i.n) := hB3.cell_ rfl
 replace hB3 := zH hB3
 replace hB4 := zH hB4
 replace hm1 := zH hm1
 cases hri : rightI r.i with
 | false =>
  have hrr2 := zH (hrr.out.trans (by rw [hri]))
  replace hri := zH hri
  go_wp2_with fail
  go_ret
  exact ⟨by rw [hrr2.out]; rfl, hm1.out⟩
 | true =>
  have hrr1 := hrr.out.trans (by rw [hri])
  replace hri := zH hri
  by_cases hs : 0 ≤ r.bal ∧ r.bal ≤ 1000000 ∧ 0 ≤ r.by_ ∧ r.by_ ≤ r.bal
  ·rw [hsl.out, decide_eq_true hs] at hrr1
   have hrr2 := zH (hrr1.trans (show (true && (true && stateB r)) = stateB r by simp))
   clear hrr1
   have d1 : ¬ r.bal < 0 := by omega
   have d2 : ¬ 1000000 < r.bal := by omega
   have d3 : ¬ r.by_ < 0 := by omega
   have d4 : ¬ r.bal < r.by_ := by omega
   replace hs := zH hs
   by_cases h0 : r.st = 0
   ·have hst1 : stateB r = (decide (r.by_ = 0) && decide (r.e = en0)) := by rw [hst.out, if_pos h0]
    rw [h0] at s1
    by_cases hb : r.by_ = 0
    ·rw [decide_eq_true hb] at hst1
     rw [hb] at s2
     have d5 : ¬ r.bal < 0 := d1
     rw [hb] at d3 d4
     replace h0 := zH h0
     replace hst1 := zH hst1
     replace hb := zH hb
     go_wp2_with fail
     refine (k3.out _ hm1.out).mono ?_
     rintro e' w2 ⟨rfl, hm2⟩
     dsimp only
     have hm3 := zH (hm1.out.trans hm2)
     replace hm2 := zH hm2
     go_wp2_with fail
     go_ret
     exact ⟨by rw [hrr2.out, hst1.out]; rfl, hm3.out⟩
    ·rw [decide_eq_false hb] at hst1
     replace h0 := zH h0
     replace hst1 := zH hst1
     go_wp2_with fail
     go_ret
     exact ⟨by rw [hrr2.out, hst1.out]; rfl, hm1.out⟩
   by_cases hv : r.st = 1
   ·have hst1 : stateB r = (decide (r.e.deps.length ≤ 100) && rightE r.i r.e) := by rw [hst.out, if_neg h0, if_pos (by omega)]
    rw [show r.st = 1 from hv] at s1
    rw [hlen.out] at hst1
    have hst1x := hst1
    clear hst1
    replace hv := zH hv
    by_cases hl : D.n ≤ 100
    ·have hl2 : (D.n : Int) ≤ 100 := by omega
     rw [decide_eq_true hl] at hst1x
     go_wp2_with fail
     with_reducible refine (k2.out _ hm1.out).mono ?_
     rintro e' w2 ⟨rfl, hm2⟩
     dsimp only
     have hm3 := zH (hm1.out.trans hm2)
     replace hm2 := zH hm2
     go_wp2_with fail
     go_ret
     exact ⟨by rw [hrr2.out, hst1x]; rfl, hm3.out⟩
    ·have hl2 : ¬ ((D.n : Int) ≤ 100) := by omega
     rw [decide_eq_false hl] at hst1x
     go_wp2_with fail
     go_ret
     exact ⟨by rw [hrr2.out, hst1x]; rfl, hm1.out⟩
   have hv1 := hv
   clear hv
   by_cases hv : r.st = 2
   ·have hst1 : stateB r = (decide (r.e.deps.length ≤ 100) && rightE r.i r.e) := by rw [hst.out, if_neg h0, if_pos (by omega)]
    rw [show r.st = 2 from hv] at s1
    rw [hlen.out] at hst1
    have hst1x := hst1
    clear hst1
    replace hv := zH hv
    by_cases hl : D.n ≤ 100
    ·have hl2 : (D.n : Int) ≤ 100 := by omega
     rw [decide_eq_true hl] at hst1x
     go_wp2_with fail
     with_reducible refine (k2.out _ hm1.out).mono ?_
     rintro e' w2 ⟨rfl, hm2⟩
     dsimp only
     have hm3 := zH (hm1.out.trans hm2)
     replace hm2 := zH hm2
     go_wp2_with fail
     go_ret
     exact ⟨by rw [hrr2.out, hst1x]; rfl, hm3.out⟩
    ·have hl2 : ¬ ((D.n : Int) ≤ 100) := by omega
     rw [decide_eq_false hl] at hst1x
     go_wp2_with fail
     go_ret
     exact ⟨by rw [hrr2.out, hst1x]; rfl, hm1.out⟩
   have hv2 := hv
   clear hv
   by_cases hv : r.st = 3
   ·have hst1 : stateB r = (decide (r.e.deps.length ≤ 100) && rightE r.i r.e) := by rw [hst.out, if_neg h0, if_pos (by omega)]
    rw [show r.st = 3 from hv] at s1
    rw [hlen.out] at hst1
    have hst1x := hst1
    clear hst1
    replace hv := zH hv
    by_cases hl : D.n ≤ 100
    ·have hl2 : (D.n : Int) ≤ 100 := by omega
     rw [decide_eq_true hl] at hst1x
     go_wp2_with fail
     with_reducible refine (k2.out _ hm1.out).mono ?_
     rintro e' w2 ⟨rfl, hm2⟩
     dsimp only
     have hm3 := zH (hm1.out.trans hm2)
     replace hm2 := zH hm2
     go_wp2_with fail
     go_ret
     exact ⟨by rw [hrr2.out, hst1x]; rfl, hm3.out⟩
    ·have hl2 : ¬ ((D.n : Int) ≤ 100) := by omega
     rw [decide_eq_false hl] at hst1x
     go_wp2_with fail
     go_ret
     exact ⟨by rw [hrr2.out, hst1x]; rfl, hm1.out⟩
   have hv3 := hv
   clear hv
   have hst1 : stateB r = false := by rw [hst.out, if_neg h0, if_neg (by omega)]
   replace hst1 := zH hst1
   go_wp2_with fail
   go_ret
   exact ⟨by rw [hrr2.out, hst1.out]; rfl, hm1.out⟩
  ·rw [hsl.out, decide_eq_false hs] at hrr1
   have hrr2 := zH (hrr1.trans (show (true && (false && stateB r)) = false by simp))
   clear hrr1
   go_wp2_with fail
   all_goals
    first
     | (go_ret; exact ⟨by rw [hrr2.out]; rfl, hm1.out⟩)
     | (exfalso; omega)
end Go.Proofs.YtfkfiokkjjnhiaaGreat
namespace Go.Proofs.YtfkfiokkjjnhiaaGreat
abbrev RS := Nat × List UInt8
abbrev PR (α : Type) := RS → α × RS
def bd {α β : Type} (p : PR α) (f : α → PR β) : PR β := fun s => f (p s).1 (p s).2
def pu {α : Type} (x : α) : PR α := fun s => (x, s)
def qg (lo hi : Int) : PR Int := fun s => rg lo hi s.2 s.1
def nb (n : Int) : List UInt8 := vb (zig n)
def in64 (n : Int) : Prop := -9223372036854775808 ≤ n ∧ n ≤ 9223372036854775807
theorem nb_len (n : Int) : (nb n).length ≤ 10 := vb_len _
theorem txtB_len (s : List UInt8) : (txtB s).length ≤ s.length + 10 := by
 unfold txtB; rw [List.length_append]; have := vb_len (zig (s.length : Int)); omega
theorem bd_of {α β : Type} {p : PR α} {f : α → PR β} {s s' : RS} {a : α} (h : p s = (a, s')) : bd p f s = f a s' := by unfold bd; rw [h]
def rdList {α : Type} (p : PR α) : Nat → PR (List α)
 | 0 => pu []
 | n + 1 => bd p fun x => bd (rdList p n) fun xs => pu (x :: xs)
theorem rdList_step {α : Type} {p : PR α} {n : Nat} {s s1 r2 : RS} {x : α} {pre all : List α} {rest : List α} (h1 : p s = (x, s1)) (h2 : rdList p (n + 1) s = (rest, r2)) (h3 : pre ++ rest = all) :
  ∃ rest', rdList p n s1 = (rest', r2) ∧ (pre ++ [x]) ++ rest' = all := by
 unfold rdList at h2
 rw [bd_of h1] at h2
 obtain ⟨xs, s2, h4⟩ : ∃ xs s2, rdList p n s1 = (xs, s2) := ⟨_, _, rfl⟩
 rw [bd_of h4] at h2
 simp only [pu, Prod.mk.injEq] at h2
 obtain ⟨rfl, rfl⟩ := h2
 exact ⟨xs, h4, by rw [← h3]; simp⟩
def legB (l : Lg) : List UInt8 := txtB l.n ++ nb l.x
def orderB (o : Od) : List UInt8 :=
 nb o.c ++ (nb o.s ++ (nb o.k ++ (txtB o.acct ++ (txtB o.peer ++ (nb o.sum ++ (nb (o.legs.length : Int) ++ (o.legs.flatMap legB ++ (nb o.per ++ (nb o.hold ++ txtB o.note)))))))))
def okLg (l : Lg) : Prop := l.n.length ≤ 8 ∧ in64 l.x
def okOd (o : Od) : Prop := (0 ≤ o.c ∧ o.c ≤ 9) ∧ (0 ≤ o.s ∧ o.s ≤ 999) ∧ (0 ≤ o.k ∧ o.k ≤ 7) ∧ o.acct.length ≤ 8 ∧ o.peer.length ≤ 8 ∧ in64 o.sum ∧ o.legs.length ≤ 6 ∧ (∀ l ∈ o.legs, okLg l) ∧ (0 ≤ o.per ∧ o.per ≤ 1000) ∧ (0 ≤ o.hold ∧ o.hold ≤ 9999) ∧ o.note.length ≤ 20
theorem nameB_len {l : List UInt8} (h : nameB l = true) : l.length ≤ 8 := by
 unfold nameB at h
 simp only [Bool.and_eq_true, decide_eq_true_eq] at h
 exact h.2
theorem legsB_ok {ls : List Lg} (h : legsB ls = true) (hn : ∀ l ∈ ls, in64 l.x) : ls.length ≤ 6 ∧ ∀ l ∈ ls, okLg l := by
 unfold legsB at h
 simp only [Bool.and_eq_true, decide_eq_true_eq, List.all_eq_true] at h
 refine ⟨h.2, fun l hl => ⟨?_, hn l hl⟩⟩
 have := h.1.1.1 l hl
 unfold okLeg at this
 rw [Bool.and_eq_true] at this
 exact nameB_len this.1
theorem rightO_okOd {o : Od} (h : rightO o = true) (hn : in64 o.sum ∧ ∀ l ∈ o.legs, in64 l.x) : okOd o := by
 unfold rightO at h
 rw [Bool.and_eq_true] at h
 obtain ⟨h1, h2⟩ := h
 unfold idB at h1
 rw [decide_eq_true_eq] at h1
 unfold kindB at h2
 have z64 : in64 0 := ⟨by omega, by omega⟩
 split at h2
 ·rename_i hk
  rw [Bool.and_eq_true, decide_eq_true_eq] at h2
  obtain ⟨he, hf⟩ := h2
  unfold fits1 at hf
  simp only [Bool.and_eq_true, decide_eq_true_eq] at hf
  have hnm := nameB_len hf.1
  rw [he] at hn ⊢
  exact ⟨⟨h1.1, h1.2.1⟩, ⟨by dsimp only [bare1]; omega, h1.2.2.2⟩, ⟨by dsimp only [bare1]; omega, by dsimp only [bare1]; omega⟩, hnm, by simp [bare1], hn.1, by simp [bare1], by simp [bare1], by simp [bare1], by simp [bare1], by simp [bare1]⟩
 ·split at h2
  ·rename_i hk
   rw [Bool.and_eq_true, decide_eq_true_eq] at h2
   obtain ⟨he, hf⟩ := h2
   unfold fits2 periodB at hf
   simp only [Bool.and_eq_true, decide_eq_true_eq] at hf
   obtain ⟨hl1, hl2⟩ := legsB_ok hf.1 hn.2
   obtain ⟨hp, hno⟩ := hf.2
   rw [he]
   exact ⟨⟨h1.1, h1.2.1⟩, ⟨by dsimp only [bare2]; omega, h1.2.2.2⟩, ⟨by dsimp only [bare2]; omega, by dsimp only [bare2]; omega⟩, by simp [bare2], by simp [bare2], z64, hl1, hl2, by dsimp only [bare2]; omega, by simp [bare2], hno⟩
  ·split at h2
   ·rename_i hk
    rw [Bool.and_eq_true, decide_eq_true_eq] at h2
    obtain ⟨he, hf⟩ := h2
    unfold fits3 at hf
    simp only [Bool.and_eq_true, decide_eq_true_eq] at hf
    have hnm := nameB_len hf.1
    rw [he] at hn ⊢
    exact ⟨⟨h1.1, h1.2.1⟩, ⟨by dsimp only [bare3]; omega, h1.2.2.2⟩, ⟨by dsimp only [bare3]; omega, by dsimp only [bare3]; omega⟩, hnm, by simp [bare3], hn.1, by simp [bare3], by simp [bare3], by simp [bare3], by simp [bare3], by simp [bare3]⟩
   ·split at h2
    ·rename_i hk
     rw [Bool.and_eq_true, decide_eq_true_eq] at h2
     obtain ⟨he, hf⟩ := h2
     unfold fits4 heldB periodB at hf
     simp only [Bool.and_eq_true, decide_eq_true_eq] at hf
     have hnm := nameB_len hf.1
     have hpm := nameB_len hf.2.1
     obtain ⟨_, _, hh, hp⟩ := hf.2.2
     rw [he] at hn ⊢
     exact ⟨⟨h1.1, h1.2.1⟩, ⟨by dsimp only [bare4]; omega, h1.2.2.2⟩, ⟨by dsimp only [bare4]; omega, by dsimp only [bare4]; omega⟩, hnm, hpm, hn.1, by simp [bare4], by simp [bare4], by dsimp only [bare4]; omega, by dsimp only [bare4]; omega, by simp [bare4]⟩
    ·split at h2
     ·rename_i hk
      rw [Bool.and_eq_true, decide_eq_true_eq] at h2
      obtain ⟨he, hf⟩ := h2
      unfold fits5 heldB at hf
      simp only [Bool.and_eq_true, decide_eq_true_eq] at hf
      have hnm := nameB_len hf.1
      have hh := hf.2
      rw [he]
      exact ⟨⟨h1.1, h1.2.1⟩, ⟨by dsimp only [bare5]; omega, h1.2.2.2⟩, ⟨by dsimp only [bare5]; omega, by dsimp only [bare5]; omega⟩, hnm, by simp [bare5], z64, by simp [bare5], by simp [bare5], by simp [bare5], by dsimp only [bare5]; omega, by simp [bare5]⟩
     ·split at h2
      ·rename_i hk
       rw [Bool.and_eq_true, decide_eq_true_eq] at h2
       obtain ⟨he, hf⟩ := h2
       unfold fits6 periodB at hf
       simp only [decide_eq_true_eq] at hf
       rw [he]
       exact ⟨⟨h1.1, h1.2.1⟩, ⟨by dsimp only [bare6]; omega, h1.2.2.2⟩, ⟨by dsimp only [bare6]; omega, by dsimp only [bare6]; omega⟩, by simp [bare6], by simp [bare6], z64, by simp [bare6], by simp [bare6], by dsimp only [bare6]; omega, by simp [bare6], by simp [bare6]⟩
      ·split at h2
       ·rename_i hk
        rw [Bool.and_eq_true, decide_eq_true_eq] at h2
        obtain ⟨he, hf⟩ := h2
        have hnm := nameB_len hf
        rw [he]
        exact ⟨⟨h1.1, h1.2.1⟩, ⟨by dsimp only [bare7]; omega, h1.2.2.2⟩, ⟨by dsimp only [bare7]; omega, by dsimp only [bare7]; omega⟩, hnm, by simp [bare7], z64, by simp [bare7], by simp [bare7], by simp [bare7], by simp [bare7], by simp [bare7]⟩
       ·cases h2
theorem flat_le {α : Type} (f : α → List UInt8) (k : Nat) : ∀ (xs : List α), (∀ x ∈ xs, (f x).length ≤ k) → (xs.flatMap f).length ≤ xs.length * k := by
 intro xs
 induction xs with
 | nil => intro _; simp
 | cons x xs ih =>
  intro h
  rw [List.flatMap_cons, List.length_append, List.length_cons, Nat.succ_mul]
  have := ih fun y hy => h y (by simp [hy])
  have := h x (by simp)
  omega
theorem orderB_len {o : Od} (h : okOd o) : (orderB o).length ≤ 400 := by
 obtain ⟨_, _, _, h4, h5, _, h7, h8, _, _, h11⟩ := h
 have hl := flat_le legB 28 o.legs fun l hl => by
  have := (h8 l hl).1
  have := txtB_len l.n
  have := nb_len l.x
  unfold legB
  rw [List.length_append]; omega
 have := nb_len o.c
 have := nb_len o.s
 have := nb_len o.k
 have := nb_len o.sum
 have := nb_len (o.legs.length : Int)
 have := nb_len o.per
 have := nb_len o.hold
 have := txtB_len o.acct
 have := txtB_len o.peer
 have := txtB_len o.note
 unfold orderB
 simp only [List.length_append]
 omega
end Go.Proofs.YtfkfiokkjjnhiaaGreat
namespace Go.Proofs.YtfkfiokkjjnhiaaGreat
open Go.RowKit
theorem record_size : (Tryz.prog.info? 57).map (·.size) = some 17 := by kernel_rfl
end Go.Proofs.YtfkfiokkjjnhiaaGreat
namespace Go.Proofs.YtfkfiokkjjnhiaaGreat
def isB (i : Is) : List UInt8 := nb i.r ++ nb i.n
def okIs (i : Is) : Prop := (0 ≤ i.r ∧ i.r ≤ 6) ∧ (0 ≤ i.n ∧ i.n ≤ 10000)
def entB (e : En) : List UInt8 := (if e.none then nb 1 else nb 0 ++ txtB (orderB e.o)) ++ (nb (e.deps.length : Int) ++ e.deps.flatMap isB)
def okEn (e : En) : Prop := (if e.none then e.o = od0 else rightO e.o = true ∧ okOd e.o) ∧ e.deps.length ≤ 100 ∧ ∀ d ∈ e.deps, okIs d
def headB (r : Rc) : List UInt8 := nb r.i.r ++ (nb r.i.n ++ (nb r.bal ++ (nb r.st ++ nb r.by_)))
def recB (r : Rc) : List UInt8 := headB r ++ (if r.st = 0 then [] else entB r.e)
def okRc (r : Rc) : Prop := okIs r.i ∧ (0 ≤ r.bal ∧ r.bal ≤ 1000000) ∧ (0 ≤ r.st ∧ r.st ≤ 3) ∧ (0 ≤ r.by_ ∧ r.by_ ≤ 1000000) ∧ (if r.st = 0 then r.e = en0 else okEn r.e)
def numsE (e : En) : Prop := in64 e.o.sum ∧ ∀ l ∈ e.o.legs, in64 l.x
def rc0 : Rc := ⟨⟨0, 0⟩, 0, 0, 0, en0⟩
theorem goodD_okIs {i : Is} {ds : List Is} (h : depsB i ds = true) : ∀ d ∈ ds, okIs d := by
 intro d hd
 unfold depsB at h
 rw [List.all_eq_true] at h
 obtain ⟨j, hj, rfl⟩ := List.getElem_of_mem hd
 have := h j (List.mem_range.2 hj)
 unfold goodD at this
 rw [List.getElem?_eq_getElem hj] at this
 dsimp only at this
 rw [Bool.and_eq_true, Bool.and_eq_true] at this
 have := this.1.1
 unfold rightI at this
 rw [decide_eq_true_eq] at this
 exact ⟨⟨this.1, this.2.1⟩, by omega, by omega⟩
theorem rightR_okRc {r : Rc} (h : rightR r = true) (hn : numsE r.e) : okRc r := by
 unfold rightR at h
 rw [Bool.and_eq_true, Bool.and_eq_true] at h
 obtain ⟨h1, h2, h3⟩ := h
 unfold rightI at h1
 unfold slotB at h2
 rw [decide_eq_true_eq] at h1 h2
 unfold stateB at h3
 by_cases hs : r.st = 0
 ·rw [if_pos hs, Bool.and_eq_true, decide_eq_true_eq, decide_eq_true_eq] at h3
  exact ⟨⟨⟨h1.1, h1.2.1⟩, by omega, by omega⟩, ⟨h2.1, h2.2.1⟩, by omega, by omega, by rw [if_pos hs]; exact h3.2⟩
 ·rw [if_neg hs] at h3
  by_cases ht : r.st = 1 ∨ r.st = 2 ∨ r.st = 3
  ·rw [if_pos ht, Bool.and_eq_true, decide_eq_true_eq] at h3
   obtain ⟨h4, h5⟩ := h3
   unfold rightE at h5
   rw [Bool.and_eq_true, Bool.and_eq_true] at h5
   refine ⟨⟨⟨h1.1, h1.2.1⟩, by omega, by omega⟩, ⟨h2.1, h2.2.1⟩, by omega, by omega, ?_⟩
   rw [if_neg hs]
   refine ⟨?_, h4, goodD_okIs h5.1⟩
   have h6 := h5.2.2
   by_cases hb : r.e.none = true
   ·rw [if_pos hb] at h6 ⊢
    exact of_decide_eq_true h6
   ·rw [if_neg hb] at h6 ⊢
    exact ⟨h6, rightO_okOd h6 hn⟩
  ·rw [if_neg ht] at h3; cases h3
theorem entB_len {e : En} (h : okEn e) : (entB e).length ≤ 2500 := by
 obtain ⟨h1, h2, _⟩ := h
 have hl := flat_le isB 20 e.deps fun i _ => by
  have := nb_len i.r
  have := nb_len i.n
  unfold isB; rw [List.length_append]; omega
 have := nb_len (e.deps.length : Int)
 have := nb_len 0
 have := nb_len 1
 unfold entB
 by_cases hb : e.none = true
 ·rw [if_pos hb]
  simp only [List.length_append]
  omega
 ·rw [if_neg hb] at h1 ⊢
  have := orderB_len h1.2
  have := txtB_len (orderB e.o)
  simp only [List.length_append]
  omega
theorem recB_len {r : Rc} (h : okRc r) : (recB r).length ≤ 2600 := by
 have := nb_len r.i.r
 have := nb_len r.i.n
 have := nb_len r.bal
 have := nb_len r.st
 have := nb_len r.by_
 have h5 := h.2.2.2.2
 unfold recB headB
 by_cases hs : r.st = 0
 ·rw [if_pos hs]; simp only [List.length_append, List.length_nil]; omega
 ·rw [if_neg hs] at h5 ⊢
  have := entB_len h5
  simp only [List.length_append]; omega
end Go.Proofs.YtfkfiokkjjnhiaaGreat
namespace Go.Proofs.YtfkfiokkjjnhiaaGreat
open Go.RowKit
def SameWB (w wr : World) : Prop := w = wr
def BsAt (w : World) (G : Option Addr) (m : Nat) (ss : List SV) (lls : List (List UInt8)) : Prop :=
 Rd w 1 G m (ss.map SV.v) ∧ ss.length = lls.length ∧ ∀ (i : Nat) (s : SV) (l : List UInt8), ss[i]? = some s → lls[i]? = some l → RdB w s.a s.n l ∧ s.n ≤ 100000000
theorem BsAt.mod0 {w w' : World} {G : Option Addr} {m : Nat} {ss : List SV} {lls : List (List UInt8)} (h : BsAt w G m ss lls) (hm : Mod none_ w w') : BsAt w' G m ss lls :=
 ⟨Rd.mod0 h.1 hm, h.2.1, fun i s l hs hl => ⟨Rd.mod0 (h.2.2 i s l hs hl).1 hm, (h.2.2 i s l hs hl).2⟩⟩
theorem BsAt.len {w : World} {G : Option Addr} {m : Nat} {ss : List SV} {lls : List (List UInt8)} (h : BsAt w G m ss lls) : lls.length = m := by
 have h1 := h.1.1
 rw [List.length_map] at h1
 have := h.2.1
 omega
theorem BsAt.get {w : World} {G : Option Addr} {m : Nat} {ss : List SV} {lls : List (List UInt8)} (h : BsAt w G m ss lls) {j : Nat} (hj : j < m) :
  ∃ b o A n c l, G = some ⟨b, o, none⟩ ∧ w.cell? ⟨b, o + j, none⟩ = some (.slice A n c) ∧ lls[j]? = some l ∧ RdB w A n l ∧ n ≤ 100000000 := by
 obtain ⟨b, o, e, hc⟩ := Rd.form h.1 (show 0 < m by omega) (by omega)
 have hl := h.len
 have hs := h.2.1
 have hjs : j < ss.length := by omega
 have hjl : j < lls.length := by omega
 obtain ⟨h1, h2⟩ := h.2.2 j ss[j] lls[j] (List.getElem?_eq_getElem hjs) (List.getElem?_eq_getElem hjl)
 refine ⟨b, o, ss[j].a, ss[j].n, ss[j].c, lls[j], e, ?_, List.getElem?_eq_getElem hjl, h1, h2⟩
 exact hc j _ (by rw [List.getElem?_map, List.getElem?_eq_getElem hjs]; rfl)
theorem BsAt.nil (w : World) : BsAt w none 0 [] [] := ⟨Rd.none_, rfl, fun i s l hs _ => by simp at hs⟩
def preB (lls : List (List UInt8)) (j : Nat) : Nat := (lls.take j).flatten.length
theorem preB_succ {lls : List (List UInt8)} {j : Nat} {l : List UInt8} (h : lls[j]? = some l) : (lls.take (j + 1)).flatten = (lls.take j).flatten ++ l ∧ preB lls (j + 1) = preB lls j + l.length := by
 have hj : j < lls.length := by
  rcases Nat.lt_or_ge j lls.length with hh | hh
  ·exact hh
  ·rw [List.getElem?_eq_none hh] at h; cases h
 rw [List.getElem?_eq_getElem hj] at h
 injection h with h
 have e : (lls.take (j + 1)).flatten = (lls.take j).flatten ++ l := by
  rw [List.take_succ_eq_append_getElem hj, List.flatten_append, h]; simp
 exact ⟨e, by unfold preB; rw [e, List.length_append]⟩
set_option maxRecDepth 100000
theorem concatB_ok (w : World) (G : Option Addr) (m d : Nat) (ss : List SV) (lls : List (List UInt8)) (h : BsAt w G m ss lls) (hm1 : m ≤ 1000) :
  Calls Tryz.prog 183 #[.slice G m d] w (BytesPost w lls.flatten) := by
 have hl := h.len
 have hb : ∀ j, j ≤ m → preB lls j ≤ j * 100000000 := by
  intro j
  induction j with
  | zero => intro _; unfold preB; simp
  | succ j ih =>
   intro hj
   have := ih (by omega)
   obtain ⟨b, o, A, n, c, l, _, _, hl2, hr, hn⟩ := h.get (show j < m by omega)
   have h2 := (preB_succ hl2).2
   have h3 := hr.len
   omega
 have hfull : lls.take m = lls := List.take_of_length_le (by omega)
 have hpm : preB lls m = lls.flatten.length := by unfold preB; rw [hfull]
 have hbm := hb m (by omega)
 have gr := zH (fun W => grow_ok W (preB lls m) (by omega))
 replace h := zH h
 replace hfull := zH hfull
 replace hb := zH hb
 replace hpm := zH hpm
 go_enter Tryz.func183, Tryz.ntmps183
 go_wp2_with fail
 go_loopw [3, 11] (fun s x wr => ∃ j : Nat, x = .int .i64 j ∧ s = .int .i64 (preB lls j : Nat) ∧ j ≤ m ∧ SameWB w wr) (fun _ x _ => m - (intOf x).toNat)
 case atStart => exact ⟨0, rfl, by unfold preB; simp, by omega, rfl⟩
 case round =>
  obtain ⟨j, rfl, rfl, hj, hw⟩ := hrel
  cases hw
  by_cases hlt : j < m
  ·obtain ⟨b, o, A, n, c, l, rfl, hc, hl2, hr, hn⟩ := h.out.get hlt
   have h2 := (preB_succ hl2).2
   have h3 := hr.len
   have h4 := hb.out j hj
   have h5 : j * 100000000 ≤ 100000000000 := by omega
   rw [h3] at h2
   generalize preB lls j = pj at *
   have h6 : wrap64 ((pj : Int) + (n : Int)) = ((pj + n : Nat) : Int) := by unfold wrap64; omega
   replace hl2 := zH hl2
   replace hr := zH hr
   replace h2 := zH h2
   replace h3 := zH h3
   go_wp2_with fail
   go_roundw
   case rel => exact ⟨j + 1, by go_num, by rw [h2.out]; simp, by omega, rfl⟩
   case measure => simp [intOf]; omega
  ·have hjm : j = m := by omega
   subst hjm
   go_wp2_with fail
   refine (gr.out _).mono ?_
   rintro e w1 ⟨A0, c0, rfl, ho0, hf0, hm0⟩
   dsimp only
   replace ho0 := zH ho0
   replace hf0 := zH hf0
   replace hm0 := zH hm0
   go_wp2_with fail
   go_loopw [6, 27] (fun v x wr => ∃ i : Nat, x = .int .i64 i ∧ i ≤ j ∧ ∃ A' c', v = .slice A' (preB lls i) c' ∧ OwB wr 5 A' (preB lls i) c' (lls.take i).flatten ∧ Fresh w A' ∧ Mod none_ w wr) (fun _ x _ => j - (intOf x).toNat)
   case atStart =>
    refine ⟨0, rfl, by omega, A0, c0, ?_, ?_, hf0.out, hm0.out⟩
    ·unfold preB; simp
    ·have := ho0.out; unfold preB; simpa using this
   case round =>
    obtain ⟨i, rfl, hi, A', c', rfl, how, hf, hm⟩ := hrel
    by_cases hlt2 : i < j
    ·obtain ⟨b, o, A, n, c, l, rfl, hc, hl2, hr, hn⟩ := (h.out.mod0 hm).get hlt2
     obtain ⟨e1, e2⟩ := preB_succ hl2
     have h3 := hr.len
     have h4 := hb.out i hi
     have h5 : i * 100000000 ≤ 100000000000 := by omega
     rw [h3] at e2
     generalize preB lls i = pj at *
     replace how := zH how
     replace hf := zH hf
     replace hm := zH hm
     replace hl2 := zH hl2
     replace hr := zH hr
     replace e1 := zH e1
     replace e2 := zH e2
     replace h3 := zH h3
     go_wp2_with (at_builtin; go_loud (refine app8 rfl (.tmp 31) (.tmp 32) rfl rfl how.out rfl hr.out (by omega) ?_; intro A2 c2 w2 ho2 hm2 hA2; replace ho2 := zH ho2; replace hm2 := zH hm2; replace hA2 := zH hA2))
     go_roundw
     case rel =>
      refine ⟨i + 1, by go_num, by omega, A2, c2, by rw [e2.out], ?_, Fresh.app hf.out hm.out.size hA2.out, hm.out.app hf.out hm2.out⟩
      rw [e2.out, e1.out]; exact ho2.out
     case measure => simp [intOf]; omega
    ·have hij : i = j := by omega
     subst hij
     rw [hfull.out] at how
     rw [hpm.out] at how ⊢
     replace how := zH how
     replace hf := zH hf
     replace hm := zH hm
     go_wp2_with fail
     go_ret
     exact ⟨A', c', rfl, how.out, hf.out, hm.out⟩
structure ByAt (w : World) (s : SV) (l : List UInt8) : Prop where
 rd : RdB w s.a s.n l
 small : s.n ≤ 100000000
theorem ByAt.mod0 {w w' : World} {s : SV} {l : List UInt8} (h : ByAt w s l) (hm : Mod none_ w w') : ByAt w' s l := ⟨Rd.mod0 h.rd hm, h.small⟩
theorem bsAt_of (w : World) (t : TypeId) (ss : List SV) (lls : List (List UInt8)) (h1 : ss.length = lls.length) (h2 : ∀ (i : Nat) (s : SV) (l : List UInt8), ss[i]? = some s → lls[i]? = some l → ByAt w s l) :
  BsAt (w.alloc (.cells (ss.map SV.v).toArray t)) (some ⟨w.heap.size, 0, none⟩) ss.length ss lls :=
 ⟨rdn w t 1 ss.length w.heap.size (ss.map SV.v).toArray (0, 0) rfl (by simp), h1, fun i s l hs hl => ⟨Rd.alloc (h2 i s l hs hl).rd _, (h2 i s l hs hl).small⟩⟩
def AllAt (w : World) : List SV → List (List UInt8) → Prop
 | [], [] => True
 | s :: ss, l :: lls => ByAt w s l ∧ AllAt w ss lls
 | _, _ => False
theorem AllAt.get {w : World} : ∀ {ss : List SV} {lls : List (List UInt8)}, AllAt w ss lls → ss.length = lls.length ∧ ∀ (i : Nat) (s : SV) (l : List UInt8), ss[i]? = some s → lls[i]? = some l → ByAt w s l
 | [], [], _ => ⟨rfl, fun i s l hs _ => by simp at hs⟩
 | s :: ss, l :: lls, h => by
  obtain ⟨h1, h2⟩ := AllAt.get h.2
  refine ⟨by simp [h1], fun i s' l' hs hl => ?_⟩
  cases i with
  | zero => simp at hs hl; subst hs hl; exact h.1
  | succ i => exact h2 i s' l' (by simpa using hs) (by simpa using hl)
 | [], _ :: _, h => h.elim
 | _ :: _, [], h => h.elim
theorem bsAt_all (w : World) (t : TypeId) (ss : List SV) (lls : List (List UInt8)) (h : AllAt w ss lls) : BsAt (w.alloc (.cells (ss.map SV.v).toArray t)) (some ⟨w.heap.size, 0, none⟩) ss.length ss lls :=
 bsAt_of w t ss lls h.get.1 h.get.2
end Go.Proofs.YtfkfiokkjjnhiaaGreat
