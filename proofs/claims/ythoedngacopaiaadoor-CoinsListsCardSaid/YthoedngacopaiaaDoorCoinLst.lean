/-
  CoinsLists: the walk; how an array of three numbers reads. The table of powers of ten reads as the program's text lays it, and the variable of the library's search in place 0 is a number.
-/
import Derived.Test.YthoedngacopaiaaDoorCoinOrd
import Derived.Test.YthoedngacopaiaaDoorRefTot
namespace Go.Proofs.YthoedngacopaiaaDoor
set_option linter.unusedVariables false
open Go.RowKit
theorem open_arr3 {H : Type} {enc : TypeId × Value → H} {w : World} {held : Bool} {base b0 : Nat} {r : Reach} {v : Value} {d : DataW H} {ps : List MemPlace} {spare : Nat → Bool}
    (hval : Value.okWide Tryd.prog w r b0 29 v) (hd : DataW.Trod enc Tryd.prog w base spare held 29 v d ps) :
    ∃ x y z : Int, v = .agg #[.int .i64 x, .int .i64 y, .int .i64 z] ∧ (Lit.int .i64 x).wf = true ∧ (Lit.int .i64 y).wf = true ∧ (Lit.int .i64 z).wf = true := by
  have hc : ∃ cs : Array Value, v = .agg cs ∧ cs.size = 3 := by
    simp only [Value.okWide, Tryd.underlying29] at hval
    obtain ⟨cs, h1, h2, _⟩ := hval
    exact ⟨cs, h1, h2.trans (by kernel_rfl)⟩
  obtain ⟨⟨cs⟩, rfl, hs⟩ := hc
  obtain ⟨fuel, hf⟩ := hd
  match cs, hs, hf with
  | [c0, c1, c2], _, hf =>
    obtain ⟨y0, y1, y2, n, _, h0, h1, h2⟩ := Go.ChangeShapes.trod_array3 Tryd.underlying29 (by kernel_rfl : Tryd.prog.cellsOf 2 = 1) hf
    obtain ⟨x, e1, _, w1⟩ := DataW.trod_int Tryd.underlying2 h0
    obtain ⟨y, e2, _, w2⟩ := DataW.trod_int Tryd.underlying2 h1
    obtain ⟨z, e3, _, w3⟩ := DataW.trod_int Tryd.underlying2 h2
    simp only [List.cons.injEq, and_true] at e1 e2 e3
    subst e1 e2 e3
    exact ⟨x, y, z, rfl, w1, w2, w3⟩
set_option maxRecDepth 100000 in
theorem same1_quiet (w : World) (A B : Option Addr) (n d1 d2 : Nat) (la : List Int) (ha : RdI w A n la) (hb : RdI w B n la) (hn : n ≤ 1000000000000000) :
    Calls Tryd.prog 20 #[.slice A n d1, .slice B n d2] w fun e w' => e = .returned (.bool true) ∧ ∃ m, w' = w.drewN m := by
  have l1 := ha.len
  replace ha := Lib.hid ha
  replace hb := Lib.hid hb
  replace l1 := Lib.hid l1
  go_enter Tryd.func20, Tryd.ntmps20
  go_wp2_with fail
  go_loopw [5] (fun x wr => ∃ j : Nat, x = .int .i64 j ∧ j ≤ n ∧ ∃ m, wr = w.drewN m) (fun x _ => n - (intOf x).toNat)
  case atStart => exact ⟨0, rfl, by omega, 0, rfl⟩
  case round =>
    obtain ⟨j, rfl, hj, m, rfl⟩ := hrel
    by_cases hlt : j < n
    · obtain ⟨b, o, rfl, hla, hc1⟩ := rdi_get (w := w.drewN m) (Rd.drewN ha.out m) hlt
      obtain ⟨b2, o2, rfl, hlb, hc2⟩ := rdi_get (w := w.drewN m) (Rd.drewN hb.out m) hlt
      generalize la[j] = x at hc1 hc2
      generalize hw : w.drewN m = w1 at *
      replace hw := Lib.hid hw
      go_wp2_with (go_quiet (fail))
      go_roundw
      case rel => exact ⟨j + 1, by go_num, by omega, _, by rw [← hw.out, World.drewN_drewN]⟩
      case measure => simp [intOf]; omega
    · go_wp2_with fail
      go_ret
      exact ⟨rfl, m, rfl⟩
theorem share_both (a parts : Int) (ha : I64 a) : (∃ n : Nat, parts = (n : Int) ∧ 1 ≤ n ∧ n ≤ 100) ∨ ¬ (1 ≤ parts ∧ parts ≤ 100) := by
  by_cases h : 1 ≤ parts ∧ parts ≤ 100
  · exact .inl ⟨parts.toNat, by omega, by omega, by omega⟩
  · exact .inr h
set_option maxRecDepth 100000 in
set_option maxHeartbeats 4000000 in
theorem coinsLists_walk (w : World) (A : Option Addr) (n c : Nat) (l : List Int) (cm : Came w 1 8 A n c (ivs l)) (hin : I64s l) (x y z : Int) (hx : I64 x) (parts : Int) (hG : Gw w) :
    Calls Tryd.prog 4 #[.slice A n c, .agg #[.int .i64 x, .int .i64 y, .int .i64 z], .int .i64 parts] w fun e w' => e = .returned (.bool true) ∧ Below w.heap.size w w' := by
  obtain ⟨hr, hnc, hc63, hcb, hlt⟩ := cm
  have hrI : RdI w A n l := hr
  have hl : ∀ o, Calls Tryd.prog 11 #[] (w.alloc o) fun e w' => e = .returned (.bool true) ∧ Mod none_ (w.alloc o) w' := fun o => lives_ok _ (hG.mod ((Mod.refl none_ w).alloc o))
  obtain ⟨m, hm⟩ : ∃ m, m = min n 200 := ⟨_, rfl⟩
  have e1 : (min (n : Int) 200).toNat = m := by omega
  have hmn : m ≤ n := by omega
  have hm1 : m ≤ 200 := by omega
  have hmc : m ≤ c := by omega
  have hml := rdi_take hrI hmn
  have hinm : I64s (l.take m) := fun x hx => hin x (List.mem_of_mem_take hx)
  generalize l.take m = xs at hml hinm
  obtain ⟨t, qt, x1⟩ : ∃ t q, sumR (isum xs) = (t, q) := ⟨_, _, rfl⟩
  have t1 : Hid (∀ W (e : Ending) (w' : World), SumPost (sumR (isum xs)) W e w' → e = .returned (.tuple #[.int .i64 t, .int .i64 (qt : Int)]) ∧ W = w') := Lib.hid fun W e w' h => h.of x1
  have t2 : Hid (∀ W (e : Ending) (w' : World), SPost (isum xs) W e w' → e = .returned (.tuple #[.int .i64 t, .int .i64 (qt : Int)]) ∧ Mod none_ W w') := Lib.hid fun W e w' h => h.of x1
  have hb : Blk (w.alloc (.cells #[.int .i64 x, .int .i64 y, .int .i64 z] 29)) w.heap.size 29 #[.int .i64 x, .int .i64 y, .int .i64 z] := Blk.new w _ _
  have hma := Rd.alloc hml (.cells #[.int .i64 x, .int .i64 y, .int .i64 z] 29)
  have hm0 := (Mod.refl none_ w).alloc (.cells #[.int .i64 x, .int .i64 y, .int .i64 z] 29)
  clear hr hrI x1 hm
  have hcs := share_both x parts hx
  replace hlt := Lib.hid hlt
  replace hG := Lib.hid hG
  replace hml := Lib.hid hml
  replace hinm := Lib.hid hinm
  replace hin := Lib.hid hin
  replace hl := Lib.hid hl
  replace hx := Lib.hid hx
  replace hb := Lib.hid hb
  replace hma := Lib.hid hma
  replace hm0 := Lib.hid hm0
  go_enter Tryd.func4, Tryd.ntmps4
  go_wp2_with fail
  refine (hl.out _).mono ?_
  rintro e w1 ⟨rfl, hm1'⟩
  dsimp only
  have hM1 := Lib.hid (Rd.mod0 hma.out hm1')
  have hB1 := Lib.hid (hb.out.mod hm1' (fun hh => hh))
  have hM0 := Lib.hid (hm0.out.trans hm1')
  replace hm1' := Lib.hid hm1'
  go_wp2_with fail
  refine (total_ok w1 A m c xs hM1.out (by omega) hinm.out).mono ?_
  rintro e w2 hpp
  obtain ⟨rfl, rfl⟩ := t1.out _ _ _ hpp
  clear hpp
  dsimp only
  go_wp2_with fail
  refine (rtotal_ok w1 A m c xs hM1.out (by omega) hinm.out).mono ?_
  rintro e w2 hpp
  obtain ⟨rfl, hm2⟩ := t2.out _ _ _ hpp
  clear hpp
  dsimp only
  have hB2 := Lib.hid (hB1.out.mod hm2 (fun hh => hh))
  have b0 := hB2.out.cell 0
  replace hm2 := Lib.hid hm2
  rcases hcs with ⟨p, rfl, hp1, hp2⟩ | hno
  · go_wp2_with fail
    refine (share_yes w2 x p hx.out hp1 hp2).mono ?_
    rintro e w3 ⟨A3, c3, rfl, ho3, hf3, hm3⟩
    dsimp only
    have hB3 := Lib.hid (hB2.out.mod hm3 (fun hh => hh))
    clear b0
    have b0 := hB3.out.cell 0
    replace ho3 := Lib.hid ho3
    replace hf3 := Lib.hid hf3
    replace hm3 := Lib.hid hm3
    go_wp2_with fail
    refine (rshare_yes w3 x p hx.out hp1 hp2).mono ?_
    rintro e w4 ⟨A4, c4, rfl, ho4, hf4, hm4⟩
    dsimp only
    have hB4 := hB3.out.mod hm4 (fun hh => hh)
    clear b0
    have b0 := hB4.cell 0
    have b1 := hB4.cell 1
    have b2 := hB4.cell 2
    have r3 := Lib.hid (Rd.mod0 ho3.out.rdi hm4)
    have r4 := Lib.hid ho4.rdi
    have hw4 : w.heap.size < w4.heap.size := hB4.lt
    have sq : Hid (∀ k, Calls Tryd.prog 20 #[.slice A3 p c3, .slice A4 p c4] (w4.drewN k) fun e w' => e = .returned (.bool true) ∧ ∃ m, w' = (w4.drewN k).drewN m) :=
      Lib.hid fun k => same1_quiet (w4.drewN k) A3 A4 p c3 c4 (shareL x p) (Rd.drewN r3.out k) (Rd.drewN r4.out k) (by omega)
    have bq : Hid (∀ k, Calls Tryd.prog 21 #[.int .i64 x, .int .i64 y, .int .i64 z] (w4.drewN k) fun e w' => e = .returned (.int .i64 (btw x y z)) ∧ w' = w4.drewN k) :=
      Lib.hid fun k => (between_ok (w4.drewN k) x y z).mono fun e w' h => ⟨h.1, h.2.symm⟩
    have cq : Hid (∀ k, Calls Tryd.prog 22 #[.int .i64 x, .int .i64 y, .int .i64 z] (w4.drewN k) fun e w' => e = .returned (.int .i64 (btw x y z)) ∧ w' = w4.drewN k) :=
      Lib.hid fun k => (rbetween_ok (w4.drewN k) x y z).mono fun e w' h => ⟨h.1, h.2.symm⟩
    clear hB4
    replace ho4 := Lib.hid ho4
    replace hf4 := Lib.hid hf4
    replace hm4 := Lib.hid hm4
    go_wp2_with fail
    go_quiet (first | (go_at_call 20; exact Calls.quiet_of (sq.out _)) | (go_at_call 21; exact Calls.quiet_of_same (bq.out _)) | (go_at_call 22; exact Calls.quiet_of_same (cq.out _)))
    go_wp2_with fail
    go_ret
    exact ⟨rfl, (((hM0.out.trans hm2.out).trans hm3.out).trans (hm4.out.drewN _)).below0⟩
  · have sn : Hid (∀ W, Calls Tryd.prog 18 #[.int .i64 x, .int .i64 parts] W fun e w' => e = .returned (.tuple #[.slice none 0 0, .int .i64 1]) ∧ W = w') := Lib.hid fun W => share_no W x parts hno
    have sr : Hid (∀ W, Calls Tryd.prog 19 #[.int .i64 x, .int .i64 parts] W fun e w' => e = .returned (.tuple #[.slice none 0 0, .int .i64 1]) ∧ W = w') := Lib.hid fun W => rshare_no W x parts hno
    clear hno
    have b1 := hB2.out.cell 1
    have b2 := hB2.out.cell 2
    have sq : Hid (∀ k, Calls Tryd.prog 20 #[.slice none 0 0, .slice none 0 0] (w2.drewN k) fun e w' => e = .returned (.bool true) ∧ ∃ m, w' = (w2.drewN k).drewN m) :=
      Lib.hid fun k => same1_quiet (w2.drewN k) none none 0 0 0 [] Rd.none_ Rd.none_ (by omega)
    have bq : Hid (∀ k, Calls Tryd.prog 21 #[.int .i64 x, .int .i64 y, .int .i64 z] (w2.drewN k) fun e w' => e = .returned (.int .i64 (btw x y z)) ∧ w' = w2.drewN k) :=
      Lib.hid fun k => (between_ok (w2.drewN k) x y z).mono fun e w' h => ⟨h.1, h.2.symm⟩
    have cq : Hid (∀ k, Calls Tryd.prog 22 #[.int .i64 x, .int .i64 y, .int .i64 z] (w2.drewN k) fun e w' => e = .returned (.int .i64 (btw x y z)) ∧ w' = w2.drewN k) :=
      Lib.hid fun k => (rbetween_ok (w2.drewN k) x y z).mono fun e w' h => ⟨h.1, h.2.symm⟩
    go_wp2_with fail
    refine (sn.out w2).mono ?_
    rintro e w3 ⟨rfl, rfl⟩
    dsimp only
    go_wp2_with fail
    refine (sr.out w2).mono ?_
    rintro e w3 ⟨rfl, rfl⟩
    dsimp only
    go_wp2_with fail
    go_quiet (first | (go_at_call 20; exact Calls.quiet_of (sq.out _)) | (go_at_call 21; exact Calls.quiet_of_same (bq.out _)) | (go_at_call 22; exact Calls.quiet_of_same (cq.out _)))
    go_wp2_with fail
    go_ret
    exact ⟨rfl, ((hM0.out.trans hm2.out).drewN _).below0⟩
end Go.Proofs.YthoedngacopaiaaDoor
