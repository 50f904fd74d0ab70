import Derived.Test.YtaohgefpnndjcaaNq2
import Derived.Test.YtaohgefpnndjcaaRows
import Derived.Deep.RegionWith
import Derived.BigRegion
import Derived.StillTailTactics
import Derived.Shelf.SlIter.Nil
import Derived.Shelf.SlIter.Sorted
import Derived.Shelf.SortM.Plain
import Derived.Shelf.SortM.SortNone
import Derived.Shelf.SlMaps.Clone
import Derived.Ground.GgzProg
import Derived.Ground.SlgmProg
import Derived.Ground.SlmcProg
import Derived.Test.YtaohgefpnndjcaaProg
/-
  The contracts of coins.Add, coins.Less, coins.Between. No condition.
-/
namespace Go.Proofs.Ytaohgefpnndjcaa
set_option linter.unusedVariables false
open Go.RowKit
/-- Two results: a sum, an error; the world is as it was. -/
def SumPost (x : Int × Nat) (w : World) (e : Ending) (w' : World) : Prop := e = .returned (.tuple #[.int .i64 x.1, .int .i64 (x.2 : Int)]) ∧ w = w'
theorem SumPost.yes {x : Int} {w : World} {e : Ending} {w' : World} (h : SumPost (x, 0) w e w') : e = .returned (.tuple #[.int .i64 x, .int .i64 0]) ∧ w = w' := h
theorem SumPost.no {w : World} {e : Ending} {w' : World} (h : SumPost (0, 2) w e w') : e = .returned (.tuple #[.int .i64 0, .int .i64 2]) ∧ w = w' := h
def I64 (a : Int) : Prop := -9223372036854775808 ≤ a ∧ a ≤ 9223372036854775807
set_option maxRecDepth 100000 in
theorem add_ok (w : World) (a b : Int) (ha : I64 a) (hb : I64 b) : Calls Try.prog 56 #[.int .i64 a, .int .i64 b] w (SumPost (sumR (a + b)) w) := by
  have H := add_over a b ha.1 ha.2 hb.1 hb.2
  by_cases h : inI (a + b) = true
  · rw [h] at H
    rw [sumR_yes h]
    have hw := Lib.hid (IntWalk.wrap64_in (a + b) (inI_yes.1 h))
    rw [Bool.not_true] at H
    replace h := Lib.hid h
    replace ha := Lib.hid ha
    replace hb := Lib.hid hb
    go_enter Try.func56, Try.ntmps56
    go_wp2
    go_ret2
    refine ⟨?_, rfl⟩
    show Ending.returned (.tuple #[.int .i64 (wrap64 (a + b)), .int .i64 0]) = _
    rw [hw.out]; rfl
  · have h : inI (a + b) = false := by simpa using h
    rw [h] at H
    rw [sumR_no h]
    rw [Bool.not_false] at H
    replace h := Lib.hid h
    replace ha := Lib.hid ha
    replace hb := Lib.hid hb
    go_enter Try.func56, Try.ntmps56
    go_wp2
    go_ret2
    exact ⟨rfl, rfl⟩
set_option maxRecDepth 100000 in
theorem less_ok (w : World) (a b : Int) (ha : I64 a) (hb : I64 b) : Calls Try.prog 49 #[.int .i64 a, .int .i64 b] w (SumPost (sumR (a - b)) w) := by
  have H := sub_over a b ha.1 ha.2 hb.1 hb.2
  by_cases h : inI (a - b) = true
  · rw [h] at H
    rw [sumR_yes h]
    have hw := Lib.hid (IntWalk.wrap64_in (a - b) (inI_yes.1 h))
    rw [Bool.not_true] at H
    replace h := Lib.hid h
    replace ha := Lib.hid ha
    replace hb := Lib.hid hb
    go_enter Try.func49, Try.ntmps49
    go_wp2
    go_ret2
    refine ⟨?_, rfl⟩
    show Ending.returned (.tuple #[.int .i64 (wrap64 (a - b)), .int .i64 0]) = _
    rw [hw.out]; rfl
  · have h : inI (a - b) = false := by simpa using h
    rw [h] at H
    rw [sumR_no h]
    rw [Bool.not_false] at H
    replace h := Lib.hid h
    replace ha := Lib.hid ha
    replace hb := Lib.hid hb
    go_enter Try.func49, Try.ntmps49
    go_wp2
    go_ret2
    exact ⟨rfl, rfl⟩
/-- The nearest. -/
def btw (a lo hi : Int) : Int := max lo (min a hi)
end Go.Proofs.Ytaohgefpnndjcaa
/-
  The contracts of what chart's Give and Aside do to an account; of free, turn, Give, Aside.
-/
namespace Go.Proofs.Ytaohgefpnndjcaa
set_option linter.unusedVariables false
open Go.RowKit
/-- a number, or that it runs over -/
def actR (x : Int) : Int × Int := if inI x then (x, 0) else (0, 2)
theorem actR_eq (x : Int) : (.tuple #[.int .i64 (sumR x).1, .int .i64 ((sumR x).2 : Int)] : Value) = .tuple #[.int .i64 (actR x).1, .int .i64 (actR x).2] := by
  unfold sumR actR
  cases inI x <;> rfl
theorem less_act (w : World) (a b : Int) (ha : I64 a) (hb : I64 b) : Calls Try.prog 49 #[.int .i64 a, .int .i64 b] w fun e w' => e = .returned (.tuple #[.int .i64 (actR (a - b)).1, .int .i64 (actR (a - b)).2]) ∧ w = w' := by
  refine (less_ok w a b ha hb).mono ?_
  rintro e w' ⟨rfl, rfl⟩
  exact ⟨by rw [actR_eq], rfl⟩
theorem add_act (w : World) (a b : Int) (ha : I64 a) (hb : I64 b) : Calls Try.prog 56 #[.int .i64 a, .int .i64 b] w fun e w' => e = .returned (.tuple #[.int .i64 (actR (a + b)).1, .int .i64 (actR (a + b)).2]) ∧ w = w' := by
  refine (add_ok w a b ha hb).mono ?_
  rintro e w' ⟨rfl, rfl⟩
  exact ⟨by rw [actR_eq], rfl⟩
set_option maxRecDepth 100000 in
set_option maxHeartbeats 1000000 in
theorem giveC_ok (w : World) (q xb : Nat) (n : Value) (h s l x : Int) (hq : Blk w q 46 #[n, .int .i64 h, .int .i64 s, .int .i64 l]) (hx : w.cell? ⟨xb, 0, none⟩ = some (.int .i64 x)) (hh : I64 h) (hx2 : I64 x) :
    Calls Try.prog 54 #[.pointer (some ⟨q, 0, none⟩), .pointer (some ⟨xb, 0, none⟩)] w fun e w' => e = .returned (.int .i64 (actR (h - x)).2) ∧ Blk w' q 46 #[n, .int .i64 (actR (h - x)).1, .int .i64 s, .int .i64 l] ∧ Mod (· = q) w w' := by
  have c1 := Lib.hid (fun W => less_act W h x hh hx2)
  have hcell : w.cell? ⟨q, 1, none⟩ = some (.int .i64 h) := hq.cell_ rfl
  have hfz : w.frozen? ⟨q, 1, none⟩ = false := hq.frozen 1
  generalize actR (h - x) = r at *
  obtain ⟨r1, r2⟩ := r
  replace hq := Lib.hid hq
  replace hh := Lib.hid hh
  replace hx2 := Lib.hid hx2
  go_enter Try.func54, Try.ntmps54
  go_wp2_with fail
  go_region_with ((go_at_call 49; refine (c1.out _).mono ?_; rintro e w1 ⟨rfl, rfl⟩; dsimp only))
  all_goals
    go_wp2_with fail
    go_ret
    exact ⟨rfl, (hq.out.set_ 1 _).drew, ((Mod.refl (· = q) w).setCell (.inl rfl) _).drew⟩
set_option maxRecDepth 100000 in
set_option maxHeartbeats 1000000 in
theorem asideC_ok (w : World) (q xb : Nat) (n : Value) (h s l x : Int) (hq : Blk w q 46 #[n, .int .i64 h, .int .i64 s, .int .i64 l]) (hx : w.cell? ⟨xb, 0, none⟩ = some (.int .i64 x)) (hs : I64 s) (hx2 : I64 x) :
    Calls Try.prog 55 #[.pointer (some ⟨q, 0, none⟩), .pointer (some ⟨xb, 0, none⟩)] w fun e w' => e = .returned (.int .i64 (actR (s + x)).2) ∧ Blk w' q 46 #[n, .int .i64 h, .int .i64 (actR (s + x)).1, .int .i64 l] ∧ Mod (· = q) w w' := by
  have c1 := Lib.hid (fun W => add_act W s x hs hx2)
  have hcell : w.cell? ⟨q, 2, none⟩ = some (.int .i64 s) := hq.cell_ rfl
  have hfz : w.frozen? ⟨q, 2, none⟩ = false := hq.frozen 2
  generalize actR (s + x) = r at *
  obtain ⟨r1, r2⟩ := r
  replace hq := Lib.hid hq
  replace hs := Lib.hid hs
  replace hx2 := Lib.hid hx2
  go_enter Try.func55, Try.ntmps55
  go_wp2_with fail
  go_region_with ((go_at_call 56; refine (c1.out _).mono ?_; rintro e w1 ⟨rfl, rfl⟩; dsimp only))
  all_goals
    go_wp2_with fail
    go_ret
    exact ⟨rfl, (hq.out.set_ 2 _).drew, ((Mod.refl (· = q) w).setCell (.inl rfl) _).drew⟩
def freeB (a : Ac) (x : Int) : Bool := inI (a.h - a.s) && inI (a.h - a.s - x) && decide (-a.l ≤ a.h - a.s - x)
/-- what every account in a chart is -/
def WfA (a : Ac) : Prop := I64 a.h ∧ I64 a.s ∧ I64 a.l ∧ 0 ≤ a.s ∧ 0 ≤ a.l
theorem act_yes {x : Int} (h : inI x = true) : actR x = (x, 0) := by unfold actR; rw [h]; rfl
theorem act_no {x : Int} (h : inI x = false) : actR x = (0, 2) := by unfold actR; rw [h]; rfl
set_option maxRecDepth 100000 in
set_option maxHeartbeats 1000000 in
theorem free_ok (w : World) (a : Ac) (x : Int) (ha : WfA a) (hx : I64 x) : Calls Try.prog 70 #[acV a, .int .i64 x] w fun e w' => e = .returned (.bool (freeB a x)) ∧ Mod none_ w w' := by
  obtain ⟨h1, h2, h3, h4, h5⟩ := ha
  obtain ⟨n, h, s, l⟩ := a
  dsimp only at h1 h2 h3 h4 h5
  unfold freeB acV
  dsimp only
  have hl : wrap64 (-l) = -l := IntWalk.wrap64_in _ ⟨by unfold I64 at h3; omega, by omega⟩
  have c1 := Lib.hid (fun W => less_act W h s h1 h2)
  cases i1 : inI (h - s) with
  | false =>
    rw [act_no i1] at c1
    replace h1 := Lib.hid h1
    replace h2 := Lib.hid h2
    replace h3 := Lib.hid h3
    replace h4 := Lib.hid h4
    replace h5 := Lib.hid h5
    replace hx := Lib.hid hx
    replace i1 := Lib.hid i1
    replace hl := Lib.hid hl
    go_enter Try.func70, Try.ntmps70
    go_wp2_with fail
    refine (c1.out _).mono ?_
    rintro e w1 ⟨rfl, rfl⟩
    dsimp only
    go_wp2_with fail
    go_ret
    exact ⟨rfl, (Mod.refl _ _).alloc _⟩
  | true =>
    rw [act_yes i1] at c1
    have hr : I64 (h - s) := ⟨(inI_yes.1 i1).1, (inI_yes.1 i1).2⟩
    have c2 := Lib.hid (fun W => less_act W (h - s) x hr hx)
    cases i2 : inI (h - s - x) with
    | false =>
      rw [act_no i2] at c2
      replace h1 := Lib.hid h1
      replace h2 := Lib.hid h2
      replace h3 := Lib.hid h3
      replace h4 := Lib.hid h4
      replace h5 := Lib.hid h5
      replace hx := Lib.hid hx
      replace i1 := Lib.hid i1
      replace hl := Lib.hid hl
      replace i2 := Lib.hid i2
      replace hr := Lib.hid hr
      go_enter Try.func70, Try.ntmps70
      go_wp2_with fail
      refine (c1.out _).mono ?_
      rintro e w1 ⟨rfl, rfl⟩
      dsimp only
      go_wp2_with fail
      refine (c2.out _).mono ?_
      rintro e w1 ⟨rfl, rfl⟩
      dsimp only
      go_wp2_with fail
      go_ret
      exact ⟨rfl, (Mod.refl _ _).alloc _⟩
    | true =>
      rw [act_yes i2] at c2
      replace h1 := Lib.hid h1
      replace h2 := Lib.hid h2
      replace h3 := Lib.hid h3
      replace h4 := Lib.hid h4
      replace h5 := Lib.hid h5
      replace hx := Lib.hid hx
      replace i1 := Lib.hid i1
      replace i2 := Lib.hid i2
      replace hr := Lib.hid hr
      go_enter Try.func70, Try.ntmps70
      go_wp2_with fail
      refine (c1.out _).mono ?_
      rintro e w1 ⟨rfl, rfl⟩
      dsimp only
      go_wp2_with fail
      refine (c2.out _).mono ?_
      rintro e w1 ⟨rfl, rfl⟩
      dsimp only
      go_wp2_with fail
      go_ret
      exact ⟨rfl, (Mod.refl _ _).alloc _⟩
/-- what a deed does to an account, and what it answers -/
abbrev Act_ := Ac → Ac × Int
def turnR (C : List Ac) (s : List UInt8) (x : Int) (act : Act_) : List Ac × Int :=
  match getC C s with
  | none => (C, 6)
  | some a => if (act a).2 ≠ 0 then (C, (act a).2) else if 0 < x ∧ freeB a x = false then (C, 9) else if (act a).1.s < 0 then (C, 13) else (setC C (act a).1, 0)
def acCells (a : Ac) : Array Value := #[.string (txt a.n), .int .i64 a.h, .int .i64 a.s, .int .i64 a.l]
theorem acct_cells {w : World} {q : Nat} {a : Ac} (h : Blk w q 46 (acCells a)) :
    w.cell? ⟨q, 0, none⟩ = some (.string (txt a.n)) ∧ w.cell? ⟨q, 1, none⟩ = some (.int .i64 a.h) ∧ w.cell? ⟨q, 2, none⟩ = some (.int .i64 a.s) ∧ w.cell? ⟨q, 3, none⟩ = some (.int .i64 a.l) :=
  ⟨h.cell_ rfl, h.cell_ rfl, h.cell_ rfl, h.cell_ rfl⟩
/-- a deed, as a function value over the block of a number -/
def Does (fid xb : Nat) (x : Int) (act : Act_) : Prop := ∀ (W : World) (q : Nat) (a : Ac), WfA a → Blk W q 46 (acCells a) → W.cell? ⟨xb, 0, none⟩ = some (.int .i64 x) →
  Calls Try.prog fid #[.pointer (some ⟨q, 0, none⟩), .pointer (some ⟨xb, 0, none⟩)] W fun e w' => e = .returned (.int .i64 (act a).2) ∧ Blk w' q 46 (acCells (act a).1) ∧ Mod (· = q) W w'
def ChPost (w : World) (p b : Nat) (r : List Ac × Int) (e : Ending) (w' : World) : Prop := e = .returned (.int .i64 r.2) ∧ ChAt w' p b r.1 ∧ Mod (· = b) w w'
set_option maxRecDepth 100000 in
set_option maxHeartbeats 2000000 in
theorem turn_none (w : World) (p b fid xb : Nat) (C : List Ac) (s : ByteArray) (x : Int) (act : Act_) (hc : ChAt w p b C) (hs : s.size ≤ maxLen) (hg : getC C s.data.toList = none) :
    Calls Try.prog 53 #[.pointer (some ⟨p, 0, none⟩), .string s, .int .i64 x, .func (.func fid) #[] #[.pointer (some ⟨xb, 0, none⟩)]] w (ChPost w p b (turnR C s.data.toList x act)) := by
  have cg := Lib.hid (get_ok w p b C s hc hs)
  unfold getV at cg
  unfold turnR
  rw [hg] at cg ⊢
  replace hc := Lib.hid hc
  replace hs := Lib.hid hs
  replace hg := Lib.hid hg
  go_enter Try.func53, Try.ntmps53
  go_wp2_with fail
  refine cg.out.mono ?_
  rintro e w1 ⟨rfl, hm⟩
  dsimp only [zeroA]
  have m1 := Lib.hid hm
  clear hm
  go_wp2_with fail
  go_ret
  exact ⟨rfl, (hc.out.mod0 m1.out).alloc _, (m1.out.alloc _).any _⟩
set_option maxRecDepth 100000 in
set_option maxHeartbeats 2000000 in
theorem turn_some (w : World) (p b fid xb : Nat) (C : List Ac) (s : ByteArray) (x : Int) (act : Act_) (a : Ac) (hc : ChAt w p b C) (hs : s.size ≤ maxLen) (hg : getC C s.data.toList = some a) (hw : ∀ a ∈ C, WfA a) (hx : I64 x)
    (hxb : w.cell? ⟨xb, 0, none⟩ = some (.int .i64 x)) (hne : xb ≠ b) (henter : ∀ args W, (callFunc fid args).run Try.prog W = .ok (.enter fid args) W) (hdo : Does fid xb x act) (hn : (act a).1.n = a.n) (hroom : C.length + 1 < maxLen) :
    Calls Try.prog 53 #[.pointer (some ⟨p, 0, none⟩), .string s, .int .i64 x, .func (.func fid) #[] #[.pointer (some ⟨xb, 0, none⟩)]] w (ChPost w p b (turnR C s.data.toList x act)) := by
  have cg := Lib.hid (get_ok w p b C s hc hs)
  unfold getV at cg
  unfold turnR
  rw [hg] at cg ⊢
  have ha := hw a (getC_mem hg)
  have cf := Lib.hid (fun W => free_ok W a x ha hx)
  have hd := Lib.hid (fun W q h1 h2 => hdo W q a ha h1 h2)
  dsimp only
  generalize hr : act a = r at *
  obtain ⟨a', er⟩ := r
  dsimp only at hn ⊢
  have key : ∀ w1, Mod none_ w w1 → Calls Try.prog fid #[.pointer (some ⟨w1.heap.size, 0, none⟩), .pointer (some ⟨xb, 0, none⟩)] ((w1.alloc (.cells (acCells a) 46)).alloc (.cells (acCells a) 46))
      fun e w' => e = .returned (.int .i64 er) ∧ Blk w' w1.heap.size 46 (acCells a') ∧ Blk w' (w1.heap.size + 1) 46 (acCells a) ∧ ChAt w' p b C ∧ Mod none_ w w' := by
    intro w1 hm
    have hb1 : Blk (w1.alloc (.cells (acCells a) 46)) w1.heap.size 46 (acCells a) := Blk.new _ _ _
    have hb2 : Blk ((w1.alloc (.cells (acCells a) 46)).alloc (.cells (acCells a) 46)) (w1.heap.size + 1) 46 (acCells a) := by
      have := Blk.new (w1.alloc (.cells (acCells a) 46)) 46 (acCells a)
      have e1 : (w1.alloc (.cells (acCells a) 46)).heap.size = w1.heap.size + 1 := by simp
      rw [e1] at this; exact this
    have hmm := (hm.alloc (.cells (acCells a) 46)).alloc (.cells (acCells a) 46)
    refine (hd.out _ w1.heap.size (hb1.alloc _) (hmm.cell_some hxb (fun h => h))).mono ?_
    rintro e w' ⟨rfl, h1, h2⟩
    have hs1 := hm.size
    have hmw : Mod none_ w w' := hmm.then h2 (fun i hi he => by have : i = w1.heap.size := he; omega)
    exact ⟨rfl, h1, hb2.mod h2 (by intro h; have : w1.heap.size + 1 = w1.heap.size := h; omega), hc.mod0 hmw, hmw⟩
  replace key := Lib.hid key
  unfold acCells at key
  by_cases h1 : er = 0
  · subst h1
    rw [if_neg (by simp)]
    by_cases hf : 0 < x ∧ freeB a x = false
    · rw [if_pos hf]
      obtain ⟨hx0, hf0⟩ := hf
      rw [hf0] at cf
      replace hc := Lib.hid hc
      replace hs := Lib.hid hs
      replace hg := Lib.hid hg
      replace hw := Lib.hid hw
      replace hx := Lib.hid hx
      replace ha := Lib.hid ha
      replace hdo := Lib.hid hdo
      replace hr := Lib.hid hr
      replace hn := Lib.hid hn
      replace hroom := Lib.hid hroom
      replace hd := Lib.hid hd
      replace hne := Lib.hid hne
      replace hf0 := Lib.hid hf0
      go_enter Try.func53, Try.ntmps53
      go_wp2_with fail
      refine cg.out.mono ?_
      rintro e w1 ⟨rfl, hm⟩
      dsimp only [acV]
      have m1 := Lib.hid hm
      clear hm
      go_wp2_with fail
      refine (key.out w1 m1.out).mono ?_
      rintro e w2 ⟨rfl, hq1, hq2, hch, hm2⟩
      dsimp only
      obtain ⟨e0, e1, e2, e3⟩ := acct_cells hq2
      unfold acV at cf
      replace hq1 := Lib.hid hq1
      replace hq2 := Lib.hid hq2
      replace hch := Lib.hid hch
      replace hm2 := Lib.hid hm2
      go_wp2_with fail
      refine (cf.out _).mono ?_
      rintro e w3 ⟨rfl, hm3⟩
      dsimp only
      replace hm3 := Lib.hid hm3
      go_wp2_with fail
      go_ret
      exact ⟨rfl, hch.out.mod0 hm3.out, (hm2.out.then hm3.out (fun _ _ h => h)).any _⟩
    · rw [if_neg hf]
      have hcase : (0 < x ∧ freeB a x = true) ∨ ¬ 0 < x := by
        by_cases h : 0 < x
        · left; refine ⟨h, ?_⟩; cases hh : freeB a x with | true => rfl | false => exact absurd ⟨h, hh⟩ hf
        · exact .inr h
      by_cases hs0 : a'.s < 0
      · rw [if_pos hs0]
        rcases hcase with ⟨hx0, hf1⟩ | hx0
        · rw [hf1] at cf
          unfold acV at cf
          replace hc := Lib.hid hc
          replace hs := Lib.hid hs
          replace hg := Lib.hid hg
          replace hw := Lib.hid hw
          replace hx := Lib.hid hx
          replace ha := Lib.hid ha
          replace hdo := Lib.hid hdo
          replace hr := Lib.hid hr
          replace hn := Lib.hid hn
          replace hroom := Lib.hid hroom
          replace hd := Lib.hid hd
          replace hne := Lib.hid hne
          replace hf1 := Lib.hid hf1
          replace hf := Lib.hid hf
          go_enter Try.func53, Try.ntmps53
          go_wp2_with fail
          refine cg.out.mono ?_
          rintro e w1 ⟨rfl, hm⟩
          dsimp only [acV]
          have m1 := Lib.hid hm
          clear hm
          go_wp2_with fail
          refine (key.out w1 m1.out).mono ?_
          rintro e w2 ⟨rfl, hq1, hq2, hch, hm2⟩
          dsimp only
          obtain ⟨e0, e1, e2, e3⟩ := acct_cells hq2
          replace hq1 := Lib.hid hq1
          replace hq2 := Lib.hid hq2
          replace hch := Lib.hid hch
          replace hm2 := Lib.hid hm2
          go_wp2_with fail
          refine (cf.out _).mono ?_
          rintro e w3 ⟨rfl, hm3⟩
          dsimp only
          have hq1' := hq1.out.mod hm3 (fun h => h)
          have f2 : w3.cell? ⟨w1.heap.size, 2, none⟩ = some (.int .i64 a'.s) := hq1'.cell_ rfl
          replace hm3 := Lib.hid hm3
          replace hq1' := Lib.hid hq1'
          go_wp2_with fail
          go_ret
          exact ⟨rfl, hch.out.mod0 hm3.out, (hm2.out.then hm3.out (fun _ _ h => h)).any _⟩
        · replace hc := Lib.hid hc
          replace hs := Lib.hid hs
          replace hg := Lib.hid hg
          replace hw := Lib.hid hw
          replace hx := Lib.hid hx
          replace ha := Lib.hid ha
          replace hdo := Lib.hid hdo
          replace hr := Lib.hid hr
          replace hn := Lib.hid hn
          replace hroom := Lib.hid hroom
          replace hd := Lib.hid hd
          replace hne := Lib.hid hne
          replace hf := Lib.hid hf
          go_enter Try.func53, Try.ntmps53
          go_wp2_with fail
          refine cg.out.mono ?_
          rintro e w1 ⟨rfl, hm⟩
          dsimp only [acV]
          have m1 := Lib.hid hm
          clear hm
          go_wp2_with fail
          refine (key.out w1 m1.out).mono ?_
          rintro e w2 ⟨rfl, hq1, hq2, hch, hm2⟩
          dsimp only
          have f2 : w2.cell? ⟨w1.heap.size, 2, none⟩ = some (.int .i64 a'.s) := hq1.cell_ rfl
          replace hq1 := Lib.hid hq1
          replace hq2 := Lib.hid hq2
          replace hch := Lib.hid hch
          replace hm2 := Lib.hid hm2
          go_wp2_with fail
          go_ret
          exact ⟨rfl, hch.out, hm2.out.any _⟩
      · rw [if_neg hs0]
        have hset : ∀ W, ChAt W p b C → ∀ W', MapAt W' 9 b (putL s.data.toList (acV a') (ents C)) → Mod (· = b) W W' → ChAt W' p b (setC C a') := by
          intro W hch W' hM hm
          have hnm := getC_name hg
          have e : s.data.toList = a'.n := by rw [hn, hnm]
          rw [e, put_old hch.sorted ⟨a, getC_mem hg, by rw [hn]⟩] at hM
          exact ⟨hch.1.mod hm hch.2.2, hM, hch.2.2⟩
        replace hset := Lib.hid hset
        rcases hcase with ⟨hx0, hf1⟩ | hx0
        · rw [hf1] at cf
          unfold acV at cf
          replace hc := Lib.hid hc
          replace hs := Lib.hid hs
          replace hg := Lib.hid hg
          replace hw := Lib.hid hw
          replace hx := Lib.hid hx
          replace ha := Lib.hid ha
          replace hdo := Lib.hid hdo
          replace hr := Lib.hid hr
          replace hn := Lib.hid hn
          replace hroom := Lib.hid hroom
          replace hd := Lib.hid hd
          replace hne := Lib.hid hne
          replace hf1 := Lib.hid hf1
          replace hf := Lib.hid hf
          go_enter Try.func53, Try.ntmps53
          go_wp2_with fail
          refine cg.out.mono ?_
          rintro e w1 ⟨rfl, hm⟩
          dsimp only [acV]
          have m1 := Lib.hid hm
          clear hm
          go_wp2_with fail
          refine (key.out w1 m1.out).mono ?_
          rintro e w2 ⟨rfl, hq1, hq2, hch, hm2⟩
          dsimp only
          obtain ⟨e0, e1, e2, e3⟩ := acct_cells hq2
          replace hq1 := Lib.hid hq1
          replace hq2 := Lib.hid hq2
          replace hch := Lib.hid hch
          replace hm2 := Lib.hid hm2
          go_wp2_with fail
          refine (cf.out _).mono ?_
          rintro e w3 ⟨rfl, hm3⟩
          dsimp only
          have hq1' := hq1.out.mod hm3 (fun h => h)
          obtain ⟨f0, f1, f2, f3⟩ := acct_cells hq1'
          have hch3 := hch.out.mod0 hm3
          have hcell : w3.cell? ⟨p, 0, none⟩ = some (.map (some b)) := hch3.1.cell_ rfl
          have hmw := hm2.out.then hm3 (fun _ _ h => h)
          clear e0 e1 e2 e3
          replace hm3 := Lib.hid hm3
          replace hq1' := Lib.hid hq1'
          replace hch3 := Lib.hid hch3
          replace hmw := Lib.hid hmw
          go_wp2_with fail
          refine wp_region_still_tail 6 (by kernel_rfl) (by decide +kernel) ?_
          simp only [List.take_succ_cons, List.take_zero, List.drop_succ_cons, List.drop_zero]
          change wpStill _ _ (World.drew _) _ _ _
          repeat still_step
          refine wpStill_nil ?_
          change wpList _ _ _ _ _ (World.drew _)
          refine map_store _ rfl (.tmp 44) (.tmp 45) (.tmp 46) _ rfl 9 46 Try.underlying67 Try.underlying9 b _ rfl (hch3.out.2.1.mod ((Mod.refl none_ _).drew) (fun h => h)) (by unfold ents; rw [List.length_map]; exact hroom.out) s hs.out rfl (acV a') rfl ?_
          intro W' hM' hm' hsz'
          have hfin := hset.out _ (hch3.out.mod0 ((Mod.refl none_ _).drew)) W' hM' hm'
          have hmf : Mod (· = b) w W' := (hmw.out.any _).trans (((Mod.refl _ _).drew).trans hm')
          replace hM' := Lib.hid hM'
          replace hm' := Lib.hid hm'
          replace hsz' := Lib.hid hsz'
          replace hfin := Lib.hid hfin
          replace hmf := Lib.hid hmf
          go_wp2_with fail
          go_ret
          exact ⟨rfl, hfin.out, hmf.out⟩
        · replace hc := Lib.hid hc
          replace hs := Lib.hid hs
          replace hg := Lib.hid hg
          replace hw := Lib.hid hw
          replace hx := Lib.hid hx
          replace ha := Lib.hid ha
          replace hdo := Lib.hid hdo
          replace hr := Lib.hid hr
          replace hn := Lib.hid hn
          replace hroom := Lib.hid hroom
          replace hd := Lib.hid hd
          replace hne := Lib.hid hne
          replace hf := Lib.hid hf
          go_enter Try.func53, Try.ntmps53
          go_wp2_with fail
          refine cg.out.mono ?_
          rintro e w1 ⟨rfl, hm⟩
          dsimp only [acV]
          have m1 := Lib.hid hm
          clear hm
          go_wp2_with fail
          refine (key.out w1 m1.out).mono ?_
          rintro e w2 ⟨rfl, hq1, hq2, hch3, hmw⟩
          dsimp only
          obtain ⟨f0, f1, f2, f3⟩ := acct_cells hq1
          have hcell : w2.cell? ⟨p, 0, none⟩ = some (.map (some b)) := hch3.1.cell_ rfl
          replace hq1 := Lib.hid hq1
          replace hq2 := Lib.hid hq2
          replace hch3 := Lib.hid hch3
          replace hmw := Lib.hid hmw
          go_wp2_with fail
          refine wp_region_still_tail 6 (by kernel_rfl) (by decide +kernel) ?_
          simp only [List.take_succ_cons, List.take_zero, List.drop_succ_cons, List.drop_zero]
          change wpStill _ _ (World.drew _) _ _ _
          repeat still_step
          refine wpStill_nil ?_
          change wpList _ _ _ _ _ (World.drew _)
          refine map_store _ rfl (.tmp 44) (.tmp 45) (.tmp 46) _ rfl 9 46 Try.underlying67 Try.underlying9 b _ rfl (hch3.out.2.1.mod ((Mod.refl none_ _).drew) (fun h => h)) (by unfold ents; rw [List.length_map]; exact hroom.out) s hs.out rfl (acV a') rfl ?_
          intro W' hM' hm' hsz'
          have hfin := hset.out _ (hch3.out.mod0 ((Mod.refl none_ _).drew)) W' hM' hm'
          have hmf : Mod (· = b) w W' := (hmw.out.any _).trans (((Mod.refl _ _).drew).trans hm')
          replace hM' := Lib.hid hM'
          replace hm' := Lib.hid hm'
          replace hsz' := Lib.hid hsz'
          replace hfin := Lib.hid hfin
          replace hmf := Lib.hid hmf
          go_wp2_with fail
          go_ret
          exact ⟨rfl, hfin.out, hmf.out⟩
  · rw [if_pos h1]
    have hne0 : (er == 0) = false := by simpa using h1
    replace hc := Lib.hid hc
    replace hs := Lib.hid hs
    replace hg := Lib.hid hg
    replace hw := Lib.hid hw
    replace hx := Lib.hid hx
    replace ha := Lib.hid ha
    replace hdo := Lib.hid hdo
    replace hr := Lib.hid hr
    replace hn := Lib.hid hn
    replace hroom := Lib.hid hroom
    replace hd := Lib.hid hd
    replace hne := Lib.hid hne
    go_enter Try.func53, Try.ntmps53
    go_wp2_with fail
    refine cg.out.mono ?_
    rintro e w1 ⟨rfl, hm⟩
    dsimp only [acV]
    have m1 := Lib.hid hm
    clear hm
    go_wp2_with fail
    refine (key.out w1 m1.out).mono ?_
    rintro e w2 ⟨rfl, hq1, hq2, hch, hm2⟩
    dsimp only
    replace hq1 := Lib.hid hq1
    replace hq2 := Lib.hid hq2
    replace hch := Lib.hid hch
    replace hm2 := Lib.hid hm2
    go_wp2_with fail
    go_ret
    exact ⟨rfl, hch.out, hm2.out.any _⟩
end Go.Proofs.Ytaohgefpnndjcaa
/-
  DERIVED: THE SHELF's CONTRACTS AT THIS DUMP, IN PLAIN WORDS (tools/lay-plain.mjs out of 'TryIter.lean', which tools/lay-shelf.mjs wrote): THE SAME DECLARATIONS UNDER THE SAME NAMES: 'import', 'namespace', 'open', 'def', 'theorem' AND NOTHING ELSE: no command of the shelf's: FOR A HAND-IN. Each laying: the table of numbers ('.._ren') and one theorem, a field a fact of the dump's own or the kernel's comparison; each contract: ONE APPLICATION.
-/
namespace Go.Proofs
open Go.Shelf
def Try.sorted42_ren : Go.Shelf.Ren := ⟨fun | 6 => 42 | 8 => 62 | 9 => 63 | 11 => 71 | 13 => 73 | 12 => 72 | 23 => 87 | 24 => 88 | 14 => 78 | 15 => 79 | 16 => 80 | 17 => 81 | 18 => 82 | 19 => 83 | 20 => 84 | 21 => 85 | 22 => 86 | 25 => 90 | 26 => 91 | 27 => 92 | 28 => 93 | 29 => 94 | 30 => 95 | 31 => 97 | n => n, fun | 26 => 9 | 28 => 65 | 24 => 62 | 0 => 0 | 3 => 3 | 37 => 38 | 48 => 112 | 50 => 83 | 4 => 4 | 40 => 105 | 39 => 104 | 45 => 109 | 5 => 5 | 9 => 9 | 51 => 114 | 55 => 118 | 57 => 120 | 58 => 121 | 33 => 76 | n => n, fun | n => n⟩
theorem Try.sorted42 : Go.Proofs.SlLaysZ.n6 Try.prog Try.sorted42_ren := {
  mixed := by kernel_rfl
  f6 := ⟨Try.f42.name, by decide, Try.func42.trans (congrArg some (by kernel_rfl))⟩
  f8 := ⟨Try.f62.name, by decide, Try.func62.trans (congrArg some (by kernel_rfl))⟩
  f11 := ⟨Try.f71.name, by decide, Try.func71.trans (congrArg some (by kernel_rfl))⟩
  t0 := Try.underlying0
  a0 := Try.isAgg0
  z0 := Try.sizeOf0
  v0 := Try.zeroValue0
  t24 := Try.underlying62
  a24 := Try.isAgg62
  z24 := Try.sizeOf62
  v24 := Try.zeroValue62
  t26 := Try.underlying9
  a26 := Try.isAgg9
  z26 := Try.sizeOf9
  v26 := Try.zeroValue9
  t28 := Try.underlying65
  a28 := Try.isAgg65
  z28 := Try.sizeOf65
  v28 := Try.zeroValue65
  i26 := by kernel_rfl }
def Try.keys43_ren : Go.Shelf.Ren := ⟨fun | 7 => 43 | 10 => 64 | n => n, fun | 23 => 67 | 26 => 9 | 3 => 46 | 28 => 65 | 0 => 0 | 27 => 64 | 33 => 76 | 4 => 4 | n => n, fun | n => n⟩
theorem Try.keys43 : Go.Proofs.SlLaysZ.n7 Try.prog Try.keys43_ren := {
  mixed := by kernel_rfl
  f7 := ⟨Try.f43.name, by decide, Try.func43.trans (congrArg some (by kernel_rfl))⟩
  f10 := ⟨Try.f64.name, by decide, Try.func64.trans (congrArg some (by kernel_rfl))⟩
  t0 := Try.underlying0
  a0 := Try.isAgg0
  z0 := Try.sizeOf0
  v0 := Try.zeroValue0
  t4 := Try.underlying4
  a4 := Try.isAgg4
  z4 := Try.sizeOf4
  v4 := Try.zeroValue4
  t23 := Try.underlying67
  a23 := Try.isAgg67
  z23 := Try.sizeOf67
  v23 := Try.zeroValue67
  t26 := Try.underlying9
  a26 := Try.isAgg9
  z26 := Try.sizeOf9
  v26 := Try.zeroValue9
  t27 := Try.underlying64
  a27 := Try.isAgg64
  z27 := Try.sizeOf64
  v27 := Try.zeroValue64
  t28 := Try.underlying65
  a28 := Try.isAgg65
  z28 := Try.sizeOf65
  v28 := Try.zeroValue65
  t33 := Try.underlying76
  a33 := Try.isAgg76
  z33 := Try.sizeOf76
  v33 := Try.zeroValue76 }
def Try.clone45_ren : Go.Shelf.Ren := ⟨fun | 5 => 45 | 7 => 65 | n => n, fun | 23 => 67 | 25 => 9 | 3 => 46 | 4 => 4 | 20 => 20 | n => n, fun | n => n⟩
theorem Try.clone45 : Go.Proofs.SlLaysW.n5 Try.prog Try.clone45_ren := {
  mixed := by kernel_rfl
  f5 := ⟨Try.f45.name, by decide, Try.func45.trans (congrArg some (by kernel_rfl))⟩
  f7 := Try.func65.trans (congrArg some (by kernel_rfl))
  t4 := Try.underlying4
  a4 := Try.isAgg4
  z4 := Try.sizeOf4
  v4 := Try.zeroValue4
  t20 := Try.underlying20
  a20 := Try.isAgg20
  z20 := Try.sizeOf20
  v20 := Try.zeroValue20
  t23 := Try.underlying67
  a23 := Try.isAgg67
  z23 := Try.sizeOf67
  v23 := Try.zeroValue67 }
def Try.keys48_ren : Go.Shelf.Ren := ⟨fun | 7 => 48 | 10 => 68 | n => n, fun | 23 => 72 | 26 => 9 | 3 => 58 | 28 => 65 | 0 => 0 | 27 => 64 | 33 => 76 | 4 => 4 | n => n, fun | n => n⟩
theorem Try.keys48 : Go.Proofs.SlLaysZ.n7 Try.prog Try.keys48_ren := {
  mixed := by kernel_rfl
  f7 := ⟨Try.f48.name, by decide, Try.func48.trans (congrArg some (by kernel_rfl))⟩
  f10 := ⟨Try.f68.name, by decide, Try.func68.trans (congrArg some (by kernel_rfl))⟩
  t0 := Try.underlying0
  a0 := Try.isAgg0
  z0 := Try.sizeOf0
  v0 := Try.zeroValue0
  t4 := Try.underlying4
  a4 := Try.isAgg4
  z4 := Try.sizeOf4
  v4 := Try.zeroValue4
  t23 := Try.underlying72
  a23 := Try.isAgg72
  z23 := Try.sizeOf72
  v23 := Try.zeroValue72
  t26 := Try.underlying9
  a26 := Try.isAgg9
  z26 := Try.sizeOf9
  v26 := Try.zeroValue9
  t27 := Try.underlying64
  a27 := Try.isAgg64
  z27 := Try.sizeOf64
  v27 := Try.zeroValue64
  t28 := Try.underlying65
  a28 := Try.isAgg65
  z28 := Try.sizeOf65
  v28 := Try.zeroValue65
  t33 := Try.underlying76
  a33 := Try.isAgg76
  z33 := Try.sizeOf76
  v33 := Try.zeroValue76 }
def Try.sort63_ren : Go.Shelf.Ren := ⟨fun | 6 => 63 | 8 => 73 | 9 => 72 | 19 => 87 | 20 => 88 | 21 => 78 | 22 => 79 | 23 => 80 | 24 => 81 | 25 => 82 | 26 => 83 | 27 => 84 | 28 => 85 | 29 => 86 | 36 => 90 | 31 => 91 | 32 => 92 | 37 => 93 | 38 => 94 | 39 => 95 | 41 => 97 | n => n, fun | 27 => 62 | 29 => 9 | 3 => 3 | 32 => 38 | 26 => 62 | 0 => 0 | 44 => 112 | 46 => 83 | 4 => 4 | 36 => 105 | 35 => 104 | 41 => 109 | 5 => 5 | 9 => 9 | 53 => 114 | 57 => 118 | 63 => 120 | 64 => 121 | n => n, fun | n => n⟩
theorem Try.sort63 : Go.Proofs.SlLaysM.n6 Try.prog Try.sort63_ren := {
  mixed := by kernel_rfl
  f6 := ⟨Try.f63.name, by decide, Try.func63.trans (congrArg some (by kernel_rfl))⟩
  f8 := Try.func73.trans (congrArg some (by kernel_rfl))
  f9 := ⟨Try.f72.name, by decide, Try.func72.trans (congrArg some (by kernel_rfl))⟩
  f19 := Try.func87.trans (congrArg some (by kernel_rfl))
  f20 := Try.func88.trans (congrArg some (by kernel_rfl))
  f21 := ⟨Try.f78.name, by decide, Try.func78.trans (congrArg some (by kernel_rfl))⟩
  f22 := ⟨Try.f79.name, by decide, Try.func79.trans (congrArg some (by kernel_rfl))⟩
  f23 := ⟨Try.f80.name, by decide, Try.func80.trans (congrArg some (by kernel_rfl))⟩
  f24 := ⟨Try.f81.name, by decide, Try.func81.trans (congrArg some (by kernel_rfl))⟩
  f25 := ⟨Try.f82.name, by decide, Try.func82.trans (congrArg some (by kernel_rfl))⟩
  f26 := ⟨Try.f83.name, by decide, Try.func83.trans (congrArg some (by kernel_rfl))⟩
  f27 := ⟨Try.f84.name, by decide, Try.func84.trans (congrArg some (by kernel_rfl))⟩
  f28 := ⟨Try.f85.name, by decide, Try.func85.trans (congrArg some (by kernel_rfl))⟩
  f29 := ⟨Try.f86.name, by decide, Try.func86.trans (congrArg some (by kernel_rfl))⟩
  f31 := Try.func91.trans (congrArg some (by kernel_rfl))
  f32 := Try.func92.trans (congrArg some (by kernel_rfl))
  f36 := ⟨Try.f90.name, by decide, Try.func90.trans (congrArg some (by kernel_rfl))⟩
  f37 := ⟨Try.f93.name, by decide, Try.func93.trans (congrArg some (by kernel_rfl))⟩
  f38 := ⟨Try.f94.name, by decide, Try.func94.trans (congrArg some (by kernel_rfl))⟩
  f39 := ⟨Try.f95.name, by decide, Try.func95.trans (congrArg some (by kernel_rfl))⟩
  f41 := ⟨Try.f97.name, by decide, Try.func97.trans (congrArg some (by kernel_rfl))⟩
  t0 := Try.underlying0
  a0 := Try.isAgg0
  z0 := Try.sizeOf0
  v0 := Try.zeroValue0
  t3 := Try.underlying3
  a3 := Try.isAgg3
  z3 := Try.sizeOf3
  v3 := Try.zeroValue3
  t4 := Try.underlying4
  a4 := Try.isAgg4
  z4 := Try.sizeOf4
  v4 := Try.zeroValue4
  t5 := Try.underlying5
  a5 := Try.isAgg5
  z5 := Try.sizeOf5
  v5 := Try.zeroValue5
  t9 := Try.underlying9
  a9 := Try.isAgg9
  z9 := Try.sizeOf9
  v9 := Try.zeroValue9
  t26 := Try.underlying62
  a26 := Try.isAgg62
  z26 := Try.sizeOf62
  v26 := Try.zeroValue62
  t27 := Try.underlying62
  a27 := Try.isAgg62
  z27 := Try.sizeOf62
  v27 := Try.zeroValue62
  t29 := Try.underlying9
  a29 := Try.isAgg9
  z29 := Try.sizeOf9
  v29 := Try.zeroValue9
  t32 := Try.underlying38
  a32 := Try.isAgg38
  z32 := Try.sizeOf38
  v32 := Try.zeroValue38
  t35 := Try.underlying104
  a35 := Try.isAgg104
  z35 := Try.sizeOf104
  v35 := Try.zeroValue104
  t36 := Try.underlying105
  a36 := Try.isAgg105
  z36 := Try.sizeOf105
  v36 := Try.zeroValue105
  t41 := Try.underlying109
  a41 := Try.isAgg109
  z41 := Try.sizeOf109
  v41 := Try.zeroValue109
  t44 := Try.underlying112
  a44 := Try.isAgg112
  z44 := Try.sizeOf112
  v44 := Try.zeroValue112
  t46 := Try.underlying83
  a46 := Try.isAgg83
  z46 := Try.sizeOf83
  v46 := Try.zeroValue83
  t53 := Try.underlying114
  a53 := Try.isAgg114
  z53 := Try.sizeOf114
  v53 := Try.zeroValue114
  t57 := Try.underlying118
  a57 := Try.isAgg118
  z57 := Try.sizeOf118
  v57 := Try.zeroValue118
  t63 := Try.underlying120
  a63 := Try.isAgg120
  z63 := Try.sizeOf120
  v63 := Try.zeroValue120
  t64 := Try.underlying121
  a64 := Try.isAgg121
  z64 := Try.sizeOf121
  v64 := Try.zeroValue121 }
end Go.Proofs
/-
  The contracts of chart's Give and Aside.
-/
namespace Go.Proofs.Ytaohgefpnndjcaa
set_option linter.unusedVariables false
open Go.RowKit
def giveA (x : Int) : Act_ := fun a => ({ a with h := (actR (a.h - x)).1 }, (actR (a.h - x)).2)
def asideA (x : Int) : Act_ := fun a => ({ a with s := (actR (a.s + x)).1 }, (actR (a.s + x)).2)
theorem give_does (xb : Nat) (x : Int) (hx : I64 x) : Does 54 xb x (giveA x) := by
  intro W q a ha hb hc
  refine (giveC_ok W q xb _ a.h a.s a.l x hb hc ha.1 hx).mono ?_
  rintro e w' ⟨h1, h2, h3⟩
  exact ⟨h1, h2, h3⟩
theorem aside_does (xb : Nat) (x : Int) (hx : I64 x) : Does 55 xb x (asideA x) := by
  intro W q a ha hb hc
  refine (asideC_ok W q xb _ a.h a.s a.l x hb hc ha.2.1 hx).mono ?_
  rintro e w' ⟨h1, h2, h3⟩
  exact ⟨h1, h2, h3⟩
theorem turn_ok (w : World) (p b fid xb : Nat) (C : List Ac) (s : ByteArray) (x : Int) (act : Act_) (hc : ChAt w p b C) (hs : s.size ≤ maxLen) (hw : ∀ a ∈ C, WfA a) (hx : I64 x)
    (hxb : w.cell? ⟨xb, 0, none⟩ = some (.int .i64 x)) (hne : xb ≠ b) (henter : ∀ args W, (callFunc fid args).run Try.prog W = .ok (.enter fid args) W) (hdo : Does fid xb x act) (hn : ∀ a, (act a).1.n = a.n) (hroom : C.length + 1 < maxLen) :
    Calls Try.prog 53 #[.pointer (some ⟨p, 0, none⟩), .string s, .int .i64 x, .func (.func fid) #[] #[.pointer (some ⟨xb, 0, none⟩)]] w (ChPost w p b (turnR C s.data.toList x act)) := by
  cases hg : getC C s.data.toList with
  | none => exact turn_none w p b fid xb C s x act hc hs hg
  | some a => exact turn_some w p b fid xb C s x act a hc hs hg hw hx hxb hne henter hdo (hn a) hroom
set_option maxRecDepth 100000 in
theorem give_ok (w : World) (p b : Nat) (C : List Ac) (s : ByteArray) (x : Int) (hc : ChAt w p b C) (hs : s.size ≤ maxLen) (hw : ∀ a ∈ C, WfA a) (hx : I64 x) (hroom : C.length + 1 < maxLen) :
    Calls Try.prog 29 #[.pointer (some ⟨p, 0, none⟩), .string s, .int .i64 x] w (ChPost w p b (turnR C s.data.toList x (giveA x))) := by
  have hb := hc.2.1.lt
  have ct := Lib.hid (turn_ok (w.alloc (.cells #[.int .i64 x] 2)) p b 54 w.heap.size C s x (giveA x) (hc.alloc _) hs hw hx ((Blk.new w 2 #[.int .i64 x]).cell_ rfl) (by omega)
    (Go.Proofs.enters_of Try.func54 (by kernel_rfl) rfl) (give_does w.heap.size x hx) (fun _ => rfl) hroom)
  replace hc := Lib.hid hc
  replace hs := Lib.hid hs
  replace hw := Lib.hid hw
  replace hx := Lib.hid hx
  replace hroom := Lib.hid hroom
  replace hb := Lib.hid hb
  go_enter Try.func29, Try.ntmps29
  go_wp2_with fail
  refine ct.out.mono ?_
  rintro e w1 ⟨rfl, hch, hm⟩
  dsimp only
  replace hch := Lib.hid hch
  replace hm := Lib.hid hm
  go_wp2_with fail
  go_ret
  exact ⟨rfl, hch.out, ((Mod.refl _ _).alloc _).then hm.out (fun _ _ h => h)⟩
set_option maxRecDepth 100000 in
theorem aside_ok (w : World) (p b : Nat) (C : List Ac) (s : ByteArray) (x : Int) (hc : ChAt w p b C) (hs : s.size ≤ maxLen) (hw : ∀ a ∈ C, WfA a) (hx : I64 x) (hroom : C.length + 1 < maxLen) :
    Calls Try.prog 31 #[.pointer (some ⟨p, 0, none⟩), .string s, .int .i64 x] w (ChPost w p b (turnR C s.data.toList x (asideA x))) := by
  have hb := hc.2.1.lt
  have ct := Lib.hid (turn_ok (w.alloc (.cells #[.int .i64 x] 2)) p b 55 w.heap.size C s x (asideA x) (hc.alloc _) hs hw hx ((Blk.new w 2 #[.int .i64 x]).cell_ rfl) (by omega)
    (Go.Proofs.enters_of Try.func55 (by kernel_rfl) rfl) (aside_does w.heap.size x hx) (fun _ => rfl) hroom)
  replace hc := Lib.hid hc
  replace hs := Lib.hid hs
  replace hw := Lib.hid hw
  replace hx := Lib.hid hx
  replace hroom := Lib.hid hroom
  replace hb := Lib.hid hb
  go_enter Try.func31, Try.ntmps31
  go_wp2_with fail
  refine ct.out.mono ?_
  rintro e w1 ⟨rfl, hch, hm⟩
  dsimp only
  replace hch := Lib.hid hch
  replace hm := Lib.hid hm
  go_wp2_with fail
  go_ret
  exact ⟨rfl, hch.out, ((Mod.refl _ _).alloc _).then hm.out (fun _ _ h => h)⟩
end Go.Proofs.Ytaohgefpnndjcaa
