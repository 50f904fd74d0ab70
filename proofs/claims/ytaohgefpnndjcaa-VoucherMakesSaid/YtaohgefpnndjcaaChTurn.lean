/-
  The contracts of what chart's Give and Aside do to an account; of free, turn, Give, Aside.
-/
import Derived.Test.YtaohgefpnndjcaaChGet
import Derived.Test.YtaohgefpnndjcaaCoinAdd
import Derived.Deep.RegionWith
import Derived.BigRegion
import Derived.StillTailTactics
namespace Go.Proofs.Ytaohgefpnndjcaa
set_option linter.unusedVariables false
open Go.RowKit
/-- a number, or that it runs over -/
def actR (x : Int) : Int × Int := if inI x then (x, 0) else (0, 2)
theorem actR_eq (x : Int) : (.tuple #[.int .i64 (sumR x).1, .int .i64 ((sumR x).2 : Int)] : Value) = .tuple #[.int .i64 (actR x).1, .int .i64 (actR x).2] := by
  unfold sumR actR
  cases inI x <;> rfl
theorem less_act (w : World) (a b : Int) (ha : I64 a) (hb : I64 b) : Calls Try.prog 49 #[.int .i64 a, .int .i64 b] w fun e w' => e = .returned (.tuple #[.int .i64 (actR (a - b)).1, .int .i64 (actR (a - b)).2]) ∧ w = w' := by
  refine (less_ok w a b ha hb).mono ?_
  rintro e w' ⟨rfl, rfl⟩
  exact ⟨by rw [actR_eq], rfl⟩
theorem add_act (w : World) (a b : Int) (ha : I64 a) (hb : I64 b) : Calls Try.prog 56 #[.int .i64 a, .int .i64 b] w fun e w' => e = .returned (.tuple #[.int .i64 (actR (a + b)).1, .int .i64 (actR (a + b)).2]) ∧ w = w' := by
  refine (add_ok w a b ha hb).mono ?_
  rintro e w' ⟨rfl, rfl⟩
  exact ⟨by rw [actR_eq], rfl⟩
set_option maxRecDepth 100000 in
set_option maxHeartbeats 1000000 in
theorem giveC_ok (w : World) (q xb : Nat) (n : Value) (h s l x : Int) (hq : Blk w q 46 #[n, .int .i64 h, .int .i64 s, .int .i64 l]) (hx : w.cell? ⟨xb, 0, none⟩ = some (.int .i64 x)) (hh : I64 h) (hx2 : I64 x) :
    Calls Try.prog 54 #[.pointer (some ⟨q, 0, none⟩), .pointer (some ⟨xb, 0, none⟩)] w fun e w' => e = .returned (.int .i64 (actR (h - x)).2) ∧ Blk w' q 46 #[n, .int .i64 (actR (h - x)).1, .int .i64 s, .int .i64 l] ∧ Mod (· = q) w w' := by
  have c1 := Lib.hid (fun W => less_act W h x hh hx2)
  have hcell : w.cell? ⟨q, 1, none⟩ = some (.int .i64 h) := hq.cell_ rfl
  have hfz : w.frozen? ⟨q, 1, none⟩ = false := hq.frozen 1
  generalize actR (h - x) = r at *
  obtain ⟨r1, r2⟩ := r
  replace hq := Lib.hid hq
  replace hh := Lib.hid hh
  replace hx2 := Lib.hid hx2
  go_enter Try.func54, Try.ntmps54
  go_wp2_with fail
  go_region_with ((go_at_call 49; refine (c1.out _).mono ?_; rintro e w1 ⟨rfl, rfl⟩; dsimp only))
  all_goals
    go_wp2_with fail
    go_ret
    exact ⟨rfl, (hq.out.set_ 1 _).drew, ((Mod.refl (· = q) w).setCell (.inl rfl) _).drew⟩
set_option maxRecDepth 100000 in
set_option maxHeartbeats 1000000 in
theorem asideC_ok (w : World) (q xb : Nat) (n : Value) (h s l x : Int) (hq : Blk w q 46 #[n, .int .i64 h, .int .i64 s, .int .i64 l]) (hx : w.cell? ⟨xb, 0, none⟩ = some (.int .i64 x)) (hs : I64 s) (hx2 : I64 x) :
    Calls Try.prog 55 #[.pointer (some ⟨q, 0, none⟩), .pointer (some ⟨xb, 0, none⟩)] w fun e w' => e = .returned (.int .i64 (actR (s + x)).2) ∧ Blk w' q 46 #[n, .int .i64 h, .int .i64 (actR (s + x)).1, .int .i64 l] ∧ Mod (· = q) w w' := by
  have c1 := Lib.hid (fun W => add_act W s x hs hx2)
  have hcell : w.cell? ⟨q, 2, none⟩ = some (.int .i64 s) := hq.cell_ rfl
  have hfz : w.frozen? ⟨q, 2, none⟩ = false := hq.frozen 2
  generalize actR (s + x) = r at *
  obtain ⟨r1, r2⟩ := r
  replace hq := Lib.hid hq
  replace hs := Lib.hid hs
  replace hx2 := Lib.hid hx2
  go_enter Try.func55, Try.ntmps55
  go_wp2_with fail
  go_region_with ((go_at_call 56; refine (c1.out _).mono ?_; rintro e w1 ⟨rfl, rfl⟩; dsimp only))
  all_goals
    go_wp2_with fail
    go_ret
    exact ⟨rfl, (hq.out.set_ 2 _).drew, ((Mod.refl (· = q) w).setCell (.inl rfl) _).drew⟩
def freeB (a : Ac) (x : Int) : Bool := inI (a.h - a.s) && inI (a.h - a.s - x) && decide (-a.l ≤ a.h - a.s - x)
/-- what every account in a chart is -/
def WfA (a : Ac) : Prop := I64 a.h ∧ I64 a.s ∧ I64 a.l ∧ 0 ≤ a.s ∧ 0 ≤ a.l
theorem act_yes {x : Int} (h : inI x = true) : actR x = (x, 0) := by unfold actR; rw [h]; rfl
theorem act_no {x : Int} (h : inI x = false) : actR x = (0, 2) := by unfold actR; rw [h]; rfl
set_option maxRecDepth 100000 in
set_option maxHeartbeats 1000000 in
theorem free_ok (w : World) (a : Ac) (x : Int) (ha : WfA a) (hx : I64 x) : Calls Try.prog 70 #[acV a, .int .i64 x] w fun e w' => e = .returned (.bool (freeB a x)) ∧ Mod none_ w w' := by
  obtain ⟨h1, h2, h3, h4, h5⟩ := ha
  obtain ⟨n, h, s, l⟩ := a
  dsimp only at h1 h2 h3 h4 h5
  unfold freeB acV
  dsimp only
  have hl : wrap64 (-l) = -l := IntWalk.wrap64_in _ ⟨by unfold I64 at h3; omega, by omega⟩
  have c1 := Lib.hid (fun W => less_act W h s h1 h2)
  cases i1 : inI (h - s) with
  | false =>
    rw [act_no i1] at c1
    replace h1 := Lib.hid h1
    replace h2 := Lib.hid h2
    replace h3 := Lib.hid h3
    replace h4 := Lib.hid h4
    replace h5 := Lib.hid h5
    replace hx := Lib.hid hx
    replace i1 := Lib.hid i1
    replace hl := Lib.hid hl
    go_enter Try.func70, Try.ntmps70
    go_wp2_with fail
    refine (c1.out _).mono ?_
    rintro e w1 ⟨rfl, rfl⟩
    dsimp only
    go_wp2_with fail
    go_ret
    exact ⟨rfl, (Mod.refl _ _).alloc _⟩
  | true =>
    rw [act_yes i1] at c1
    have hr : I64 (h - s) := ⟨(inI_yes.1 i1).1, (inI_yes.1 i1).2⟩
    have c2 := Lib.hid (fun W => less_act W (h - s) x hr hx)
    cases i2 : inI (h - s - x) with
    | false =>
      rw [act_no i2] at c2
      replace h1 := Lib.hid h1
      replace h2 := Lib.hid h2
      replace h3 := Lib.hid h3
      replace h4 := Lib.hid h4
      replace h5 := Lib.hid h5
      replace hx := Lib.hid hx
      replace i1 := Lib.hid i1
      replace hl := Lib.hid hl
      replace i2 := Lib.hid i2
      replace hr := Lib.hid hr
      go_enter Try.func70, Try.ntmps70
      go_wp2_with fail
      refine (c1.out _).mono ?_
      rintro e w1 ⟨rfl, rfl⟩
      dsimp only
      go_wp2_with fail
      refine (c2.out _).mono ?_
      rintro e w1 ⟨rfl, rfl⟩
      dsimp only
      go_wp2_with fail
      go_ret
      exact ⟨rfl, (Mod.refl _ _).alloc _⟩
    | true =>
      rw [act_yes i2] at c2
      replace h1 := Lib.hid h1
      replace h2 := Lib.hid h2
      replace h3 := Lib.hid h3
      replace h4 := Lib.hid h4
      replace h5 := Lib.hid h5
      replace hx := Lib.hid hx
      replace i1 := Lib.hid i1
      replace i2 := Lib.hid i2
      replace hr := Lib.hid hr
      go_enter Try.func70, Try.ntmps70
      go_wp2_with fail
      refine (c1.out _).mono ?_
      rintro e w1 ⟨rfl, rfl⟩
      dsimp only
      go_wp2_with fail
      refine (c2.out _).mono ?_
      rintro e w1 ⟨rfl, rfl⟩
      dsimp only
      go_wp2_with fail
      go_ret
      exact ⟨rfl, (Mod.refl _ _).alloc _⟩
/-- what a deed does to an account, and what it answers -/
abbrev Act_ := Ac → Ac × Int
def turnR (C : List Ac) (s : List UInt8) (x : Int) (act : Act_) : List Ac × Int :=
  match getC C s with
  | none => (C, 6)
  | some a => if (act a).2 ≠ 0 then (C, (act a).2) else if 0 < x ∧ freeB a x = false then (C, 9) else if (act a).1.s < 0 then (C, 13) else (setC C (act a).1, 0)
def acCells (a : Ac) : Array Value := #[.string (txt a.n), .int .i64 a.h, .int .i64 a.s, .int .i64 a.l]
theorem acct_cells {w : World} {q : Nat} {a : Ac} (h : Blk w q 46 (acCells a)) :
    w.cell? ⟨q, 0, none⟩ = some (.string (txt a.n)) ∧ w.cell? ⟨q, 1, none⟩ = some (.int .i64 a.h) ∧ w.cell? ⟨q, 2, none⟩ = some (.int .i64 a.s) ∧ w.cell? ⟨q, 3, none⟩ = some (.int .i64 a.l) :=
  ⟨h.cell_ rfl, h.cell_ rfl, h.cell_ rfl, h.cell_ rfl⟩
/-- a deed, as a function value over the block of a number -/
def Does (fid xb : Nat) (x : Int) (act : Act_) : Prop := ∀ (W : World) (q : Nat) (a : Ac), WfA a → Blk W q 46 (acCells a) → W.cell? ⟨xb, 0, none⟩ = some (.int .i64 x) →
  Calls Try.prog fid #[.pointer (some ⟨q, 0, none⟩), .pointer (some ⟨xb, 0, none⟩)] W fun e w' => e = .returned (.int .i64 (act a).2) ∧ Blk w' q 46 (acCells (act a).1) ∧ Mod (· = q) W w'
def ChPost (w : World) (p b : Nat) (r : List Ac × Int) (e : Ending) (w' : World) : Prop := e = .returned (.int .i64 r.2) ∧ ChAt w' p b r.1 ∧ Mod (· = b) w w'
set_option maxRecDepth 100000 in
set_option maxHeartbeats 2000000 in
theorem turn_none (w : World) (p b fid xb : Nat) (C : List Ac) (s : ByteArray) (x : Int) (act : Act_) (hc : ChAt w p b C) (hs : s.size ≤ maxLen) (hg : getC C s.data.toList = none) :
    Calls Try.prog 53 #[.pointer (some ⟨p, 0, none⟩), .string s, .int .i64 x, .func (.func fid) #[] #[.pointer (some ⟨xb, 0, none⟩)]] w (ChPost w p b (turnR C s.data.toList x act)) := by
  have cg := Lib.hid (get_ok w p b C s hc hs)
  unfold getV at cg
  unfold turnR
  rw [hg] at cg ⊢
  replace hc := Lib.hid hc
  replace hs := Lib.hid hs
  replace hg := Lib.hid hg
  go_enter Try.func53, Try.ntmps53
  go_wp2_with fail
  refine cg.out.mono ?_
  rintro e w1 ⟨rfl, hm⟩
  dsimp only [zeroA]
  have m1 := Lib.hid hm
  clear hm
  go_wp2_with fail
  go_ret
  exact ⟨rfl, (hc.out.mod0 m1.out).alloc _, (m1.out.alloc _).any _⟩
set_option maxRecDepth 100000 in
set_option maxHeartbeats 2000000 in
theorem turn_some (w : World) (p b fid xb : Nat) (C : List Ac) (s : ByteArray) (x : Int) (act : Act_) (a : Ac) (hc : ChAt w p b C) (hs : s.size ≤ maxLen) (hg : getC C s.data.toList = some a) (hw : ∀ a ∈ C, WfA a) (hx : I64 x)
    (hxb : w.cell? ⟨xb, 0, none⟩ = some (.int .i64 x)) (hne : xb ≠ b) (henter : ∀ args W, (callFunc fid args).run Try.prog W = .ok (.enter fid args) W) (hdo : Does fid xb x act) (hn : (act a).1.n = a.n) (hroom : C.length + 1 < maxLen) :
    Calls Try.prog 53 #[.pointer (some ⟨p, 0, none⟩), .string s, .int .i64 x, .func (.func fid) #[] #[.pointer (some ⟨xb, 0, none⟩)]] w (ChPost w p b (turnR C s.data.toList x act)) := by
  have cg := Lib.hid (get_ok w p b C s hc hs)
  unfold getV at cg
  unfold turnR
  rw [hg] at cg ⊢
  have ha := hw a (getC_mem hg)
  have cf := Lib.hid (fun W => free_ok W a x ha hx)
  have hd := Lib.hid (fun W q h1 h2 => hdo W q a ha h1 h2)
  dsimp only
  generalize hr : act a = r at *
  obtain ⟨a', er⟩ := r
  dsimp only at hn ⊢
  have key : ∀ w1, Mod none_ w w1 → Calls Try.prog fid #[.pointer (some ⟨w1.heap.size, 0, none⟩), .pointer (some ⟨xb, 0, none⟩)] ((w1.alloc (.cells (acCells a) 46)).alloc (.cells (acCells a) 46))
      fun e w' => e = .returned (.int .i64 er) ∧ Blk w' w1.heap.size 46 (acCells a') ∧ Blk w' (w1.heap.size + 1) 46 (acCells a) ∧ ChAt w' p b C ∧ Mod none_ w w' := by
    intro w1 hm
    have hb1 : Blk (w1.alloc (.cells (acCells a) 46)) w1.heap.size 46 (acCells a) := Blk.new _ _ _
    have hb2 : Blk ((w1.alloc (.cells (acCells a) 46)).alloc (.cells (acCells a) 46)) (w1.heap.size + 1) 46 (acCells a) := by
      have := Blk.new (w1.alloc (.cells (acCells a) 46)) 46 (acCells a)
      have e1 : (w1.alloc (.cells (acCells a) 46)).heap.size = w1.heap.size + 1 := by simp
      rw [e1] at this; exact this
    have hmm := (hm.alloc (.cells (acCells a) 46)).alloc (.cells (acCells a) 46)
    refine (hd.out _ w1.heap.size (hb1.alloc _) (hmm.cell_some hxb (fun h => h))).mono ?_
    rintro e w' ⟨rfl, h1, h2⟩
    have hs1 := hm.size
    have hmw : Mod none_ w w' := hmm.then h2 (fun i hi he => by have : i = w1.heap.size := he; omega)
    exact ⟨rfl, h1, hb2.mod h2 (by intro h; have : w1.heap.size + 1 = w1.heap.size := h; omega), hc.mod0 hmw, hmw⟩
  replace key := Lib.hid key
  unfold acCells at key
  by_cases h1 : er = 0
  · subst h1
    rw [if_neg (by simp)]
    by_cases hf : 0 < x ∧ freeB a x = false
    · rw [if_pos hf]
      obtain ⟨hx0, hf0⟩ := hf
      rw [hf0] at cf
      replace hc := Lib.hid hc
      replace hs := Lib.hid hs
      replace hg := Lib.hid hg
      replace hw := Lib.hid hw
      replace hx := Lib.hid hx
      replace ha := Lib.hid ha
      replace hdo := Lib.hid hdo
      replace hr := Lib.hid hr
      replace hn := Lib.hid hn
      replace hroom := Lib.hid hroom
      replace hd := Lib.hid hd
      replace hne := Lib.hid hne
      replace hf0 := Lib.hid hf0
      go_enter Try.func53, Try.ntmps53
      go_wp2_with fail
      refine cg.out.mono ?_
      rintro e w1 ⟨rfl, hm⟩
      dsimp only [acV]
      have m1 := Lib.hid hm
      clear hm
      go_wp2_with fail
      refine (key.out w1 m1.out).mono ?_
      rintro e w2 ⟨rfl, hq1, hq2, hch, hm2⟩
      dsimp only
      obtain ⟨e0, e1, e2, e3⟩ := acct_cells hq2
      unfold acV at cf
      replace hq1 := Lib.hid hq1
      replace hq2 := Lib.hid hq2
      replace hch := Lib.hid hch
      replace hm2 := Lib.hid hm2
      go_wp2_with fail
      refine (cf.out _).mono ?_
      rintro e w3 ⟨rfl, hm3⟩
      dsimp only
      replace hm3 := Lib.hid hm3
      go_wp2_with fail
      go_ret
      exact ⟨rfl, hch.out.mod0 hm3.out, (hm2.out.then hm3.out (fun _ _ h => h)).any _⟩
    · rw [if_neg hf]
      have hcase : (0 < x ∧ freeB a x = true) ∨ ¬ 0 < x := by
        by_cases h : 0 < x
        · left; refine ⟨h, ?_⟩; cases hh : freeB a x with | true => rfl | false => exact absurd ⟨h, hh⟩ hf
        · exact .inr h
      by_cases hs0 : a'.s < 0
      · rw [if_pos hs0]
        rcases hcase with ⟨hx0, hf1⟩ | hx0
        · rw [hf1] at cf
          unfold acV at cf
          replace hc := Lib.hid hc
          replace hs := Lib.hid hs
          replace hg := Lib.hid hg
          replace hw := Lib.hid hw
          replace hx := Lib.hid hx
          replace ha := Lib.hid ha
          replace hdo := Lib.hid hdo
          replace hr := Lib.hid hr
          replace hn := Lib.hid hn
          replace hroom := Lib.hid hroom
          replace hd := Lib.hid hd
          replace hne := Lib.hid hne
          replace hf1 := Lib.hid hf1
          replace hf := Lib.hid hf
          go_enter Try.func53, Try.ntmps53
          go_wp2_with fail
          refine cg.out.mono ?_
          rintro e w1 ⟨rfl, hm⟩
          dsimp only [acV]
          have m1 := Lib.hid hm
          clear hm
          go_wp2_with fail
          refine (key.out w1 m1.out).mono ?_
          rintro e w2 ⟨rfl, hq1, hq2, hch, hm2⟩
          dsimp only
          obtain ⟨e0, e1, e2, e3⟩ := acct_cells hq2
          replace hq1 := Lib.hid hq1
          replace hq2 := Lib.hid hq2
          replace hch := Lib.hid hch
          replace hm2 := Lib.hid hm2
          go_wp2_with fail
          refine (cf.out _).mono ?_
          rintro e w3 ⟨rfl, hm3⟩
          dsimp only
          have hq1' := hq1.out.mod hm3 (fun h => h)
          have f2 : w3.cell? ⟨w1.heap.size, 2, none⟩ = some (.int .i64 a'.s) := hq1'.cell_ rfl
          replace hm3 := Lib.hid hm3
          replace hq1' := Lib.hid hq1'
          go_wp2_with fail
          go_ret
          exact ⟨rfl, hch.out.mod0 hm3.out, (hm2.out.then hm3.out (fun _ _ h => h)).any _⟩
        · replace hc := Lib.hid hc
          replace hs := Lib.hid hs
          replace hg := Lib.hid hg
          replace hw := Lib.hid hw
          replace hx := Lib.hid hx
          replace ha := Lib.hid ha
          replace hdo := Lib.hid hdo
          replace hr := Lib.hid hr
          replace hn := Lib.hid hn
          replace hroom := Lib.hid hroom
          replace hd := Lib.hid hd
          replace hne := Lib.hid hne
          replace hf := Lib.hid hf
          go_enter Try.func53, Try.ntmps53
          go_wp2_with fail
          refine cg.out.mono ?_
          rintro e w1 ⟨rfl, hm⟩
          dsimp only [acV]
          have m1 := Lib.hid hm
          clear hm
          go_wp2_with fail
          refine (key.out w1 m1.out).mono ?_
          rintro e w2 ⟨rfl, hq1, hq2, hch, hm2⟩
          dsimp only
          have f2 : w2.cell? ⟨w1.heap.size, 2, none⟩ = some (.int .i64 a'.s) := hq1.cell_ rfl
          replace hq1 := Lib.hid hq1
          replace hq2 := Lib.hid hq2
          replace hch := Lib.hid hch
          replace hm2 := Lib.hid hm2
          go_wp2_with fail
          go_ret
          exact ⟨rfl, hch.out, hm2.out.any _⟩
      · rw [if_neg hs0]
        have hset : ∀ W, ChAt W p b C → ∀ W', MapAt W' 9 b (putL s.data.toList (acV a') (ents C)) → Mod (· = b) W W' → ChAt W' p b (setC C a') := by
          intro W hch W' hM hm
          have hnm := getC_name hg
          have e : s.data.toList = a'.n := by rw [hn, hnm]
          rw [e, put_old hch.sorted ⟨a, getC_mem hg, by rw [hn]⟩] at hM
          exact ⟨hch.1.mod hm hch.2.2, hM, hch.2.2⟩
        replace hset := Lib.hid hset
        rcases hcase with ⟨hx0, hf1⟩ | hx0
        · rw [hf1] at cf
          unfold acV at cf
          replace hc := Lib.hid hc
          replace hs := Lib.hid hs
          replace hg := Lib.hid hg
          replace hw := Lib.hid hw
          replace hx := Lib.hid hx
          replace ha := Lib.hid ha
          replace hdo := Lib.hid hdo
          replace hr := Lib.hid hr
          replace hn := Lib.hid hn
          replace hroom := Lib.hid hroom
          replace hd := Lib.hid hd
          replace hne := Lib.hid hne
          replace hf1 := Lib.hid hf1
          replace hf := Lib.hid hf
          go_enter Try.func53, Try.ntmps53
          go_wp2_with fail
          refine cg.out.mono ?_
          rintro e w1 ⟨rfl, hm⟩
          dsimp only [acV]
          have m1 := Lib.hid hm
          clear hm
          go_wp2_with fail
          refine (key.out w1 m1.out).mono ?_
          rintro e w2 ⟨rfl, hq1, hq2, hch, hm2⟩
          dsimp only
          obtain ⟨e0, e1, e2, e3⟩ := acct_cells hq2
          replace hq1 := Lib.hid hq1
          replace hq2 := Lib.hid hq2
          replace hch := Lib.hid hch
          replace hm2 := Lib.hid hm2
          go_wp2_with fail
          refine (cf.out _).mono ?_
          rintro e w3 ⟨rfl, hm3⟩
          dsimp only
          have hq1' := hq1.out.mod hm3 (fun h => h)
          obtain ⟨f0, f1, f2, f3⟩ := acct_cells hq1'
          have hch3 := hch.out.mod0 hm3
          have hcell : w3.cell? ⟨p, 0, none⟩ = some (.map (some b)) := hch3.1.cell_ rfl
          have hmw := hm2.out.then hm3 (fun _ _ h => h)
          clear e0 e1 e2 e3
          replace hm3 := Lib.hid hm3
          replace hq1' := Lib.hid hq1'
          replace hch3 := Lib.hid hch3
          replace hmw := Lib.hid hmw
          go_wp2_with fail
          refine wp_region_still_tail 6 (by kernel_rfl) (by decide +kernel) ?_
          simp only [List.take_succ_cons, List.take_zero, List.drop_succ_cons, List.drop_zero]
          change wpStill _ _ (World.drew _) _ _ _
          repeat still_step
          refine wpStill_nil ?_
          change wpList _ _ _ _ _ (World.drew _)
          refine map_store _ rfl (.tmp 44) (.tmp 45) (.tmp 46) _ rfl 9 46 Try.underlying67 Try.underlying9 b _ rfl (hch3.out.2.1.mod ((Mod.refl none_ _).drew) (fun h => h)) (by unfold ents; rw [List.length_map]; exact hroom.out) s hs.out rfl (acV a') rfl ?_
          intro W' hM' hm' hsz'
          have hfin := hset.out _ (hch3.out.mod0 ((Mod.refl none_ _).drew)) W' hM' hm'
          have hmf : Mod (· = b) w W' := (hmw.out.any _).trans (((Mod.refl _ _).drew).trans hm')
          replace hM' := Lib.hid hM'
          replace hm' := Lib.hid hm'
          replace hsz' := Lib.hid hsz'
          replace hfin := Lib.hid hfin
          replace hmf := Lib.hid hmf
          go_wp2_with fail
          go_ret
          exact ⟨rfl, hfin.out, hmf.out⟩
        · replace hc := Lib.hid hc
          replace hs := Lib.hid hs
          replace hg := Lib.hid hg
          replace hw := Lib.hid hw
          replace hx := Lib.hid hx
          replace ha := Lib.hid ha
          replace hdo := Lib.hid hdo
          replace hr := Lib.hid hr
          replace hn := Lib.hid hn
          replace hroom := Lib.hid hroom
          replace hd := Lib.hid hd
          replace hne := Lib.hid hne
          replace hf := Lib.hid hf
          go_enter Try.func53, Try.ntmps53
          go_wp2_with fail
          refine cg.out.mono ?_
          rintro e w1 ⟨rfl, hm⟩
          dsimp only [acV]
          have m1 := Lib.hid hm
          clear hm
          go_wp2_with fail
          refine (key.out w1 m1.out).mono ?_
          rintro e w2 ⟨rfl, hq1, hq2, hch3, hmw⟩
          dsimp only
          obtain ⟨f0, f1, f2, f3⟩ := acct_cells hq1
          have hcell : w2.cell? ⟨p, 0, none⟩ = some (.map (some b)) := hch3.1.cell_ rfl
          replace hq1 := Lib.hid hq1
          replace hq2 := Lib.hid hq2
          replace hch3 := Lib.hid hch3
          replace hmw := Lib.hid hmw
          go_wp2_with fail
          refine wp_region_still_tail 6 (by kernel_rfl) (by decide +kernel) ?_
          simp only [List.take_succ_cons, List.take_zero, List.drop_succ_cons, List.drop_zero]
          change wpStill _ _ (World.drew _) _ _ _
          repeat still_step
          refine wpStill_nil ?_
          change wpList _ _ _ _ _ (World.drew _)
          refine map_store _ rfl (.tmp 44) (.tmp 45) (.tmp 46) _ rfl 9 46 Try.underlying67 Try.underlying9 b _ rfl (hch3.out.2.1.mod ((Mod.refl none_ _).drew) (fun h => h)) (by unfold ents; rw [List.length_map]; exact hroom.out) s hs.out rfl (acV a') rfl ?_
          intro W' hM' hm' hsz'
          have hfin := hset.out _ (hch3.out.mod0 ((Mod.refl none_ _).drew)) W' hM' hm'
          have hmf : Mod (· = b) w W' := (hmw.out.any _).trans (((Mod.refl _ _).drew).trans hm')
          replace hM' := Lib.hid hM'
          replace hm' := Lib.hid hm'
          replace hsz' := Lib.hid hsz'
          replace hfin := Lib.hid hfin
          replace hmf := Lib.hid hmf
          go_wp2_with fail
          go_ret
          exact ⟨rfl, hfin.out, hmf.out⟩
  · rw [if_pos h1]
    have hne0 : (er == 0) = false := by simpa using h1
    replace hc := Lib.hid hc
    replace hs := Lib.hid hs
    replace hg := Lib.hid hg
    replace hw := Lib.hid hw
    replace hx := Lib.hid hx
    replace ha := Lib.hid ha
    replace hdo := Lib.hid hdo
    replace hr := Lib.hid hr
    replace hn := Lib.hid hn
    replace hroom := Lib.hid hroom
    replace hd := Lib.hid hd
    replace hne := Lib.hid hne
    go_enter Try.func53, Try.ntmps53
    go_wp2_with fail
    refine cg.out.mono ?_
    rintro e w1 ⟨rfl, hm⟩
    dsimp only [acV]
    have m1 := Lib.hid hm
    clear hm
    go_wp2_with fail
    refine (key.out w1 m1.out).mono ?_
    rintro e w2 ⟨rfl, hq1, hq2, hch, hm2⟩
    dsimp only
    replace hq1 := Lib.hid hq1
    replace hq2 := Lib.hid hq2
    replace hch := Lib.hid hch
    replace hm2 := Lib.hid hm2
    go_wp2_with fail
    go_ret
    exact ⟨rfl, hch.out, hm2.out.any _⟩
end Go.Proofs.Ytaohgefpnndjcaa
