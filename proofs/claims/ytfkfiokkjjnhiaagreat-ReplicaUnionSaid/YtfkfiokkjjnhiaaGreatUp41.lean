import Derived.Test.YtfkfiokkjjnhiaaGreatUp40
import Derived.Test.YtfkfiokkjjnhiaaGreatUp31
import Derived.Test.YtfkfiokkjjnhiaaGreatUp16
set_option linter.unusedVariables false
set_option linter.unusedSimpArgs false
set_option maxHeartbeats 16000000
namespace Go.Proofs.YtfkfiokkjjnhiaaGreat
open Go.RowKit
structure Fin (X : RpS) (D : SV) : Prop where
 S : X.S = [(i1, slV (sl1 3 D))]
 ln : X.ln = 1
 one : ∀ u ∈ X.lv, u.oneCell' = true
def PhF (j : Nat) (w : World) (col : Col) (ms : List Ms) (X : Nat → RpS) : Prop :=
 match j with
 | 0 => ∃ D p hm, D.n = 0 ∧ ms = [ms1 1 0 1 0 D, ms1 1 2 1 0 D] ∧ Blank (X 0) ∧ Blank (X 2) ∧ LeadX (X 1) p D ∧ Lead w col p hm D [(1, sv D)]
 | 1 => ∃ D D0 p hm, D.n = 0 ∧ D0.n = 0 ∧ ms = [ms1 1 2 1 0 D, ms1 0 1 2 1 D0] ∧ Heard (X 0) D0 ∧ Blank (X 2) ∧ LeadX (X 1) p D ∧ Lead w col p hm D [(1, sv D)]
 | 2 => ∃ D D0 D2 p hm, D.n = 0 ∧ D0.n = 0 ∧ D2.n = 0 ∧ ms = [ms1 0 1 2 1 D0, ms1 2 1 2 1 D2] ∧ Heard (X 0) D0 ∧ Heard (X 2) D2 ∧ LeadX (X 1) p D ∧ Lead w col p hm D [(1, sv D)]
 | 3 => ∃ D D0 D2 p hm, D.n = 0 ∧ D0.n = 0 ∧ D2.n = 0 ∧ ms = [ms1 2 1 2 1 D2] ∧ Heard (X 0) D0 ∧ Heard (X 2) D2 ∧ LeadX (X 1) p D ∧ Lead w col p hm D [(0, sv D0), (1, sv D)]
 | 4 => ∃ D D0 D2 g, D.n = 0 ∧ D0.n = 0 ∧ D2.n = 0 ∧ ms = [ms1 1 0 5 0 D, ms1 1 2 5 0 D] ∧ Heard (X 0) D0 ∧ Heard (X 2) D2 ∧ (X 1).S = [(i1, slV (sl1 3 D))] ∧ (X 1).Tl = [(i1, .map (some g))] ∧ Tld w col g []
 | 5 => ∃ D D2 g, D.n = 0 ∧ D2.n = 0 ∧ ms = [ms1 1 2 5 0 D, msG 0 1] ∧ Fin (X 0) D ∧ Heard (X 2) D2 ∧ (X 1).S = [(i1, slV (sl1 3 D))] ∧ (X 1).Tl = [(i1, .map (some g))] ∧ Tld w col g []
 | 6 => ∃ D g, D.n = 0 ∧ ms = [msG 0 1, msG 2 1] ∧ Fin (X 0) D ∧ Fin (X 2) D ∧ (X 1).S = [(i1, slV (sl1 3 D))] ∧ (X 1).Tl = [(i1, .map (some g))] ∧ Tld w col g []
 | 7 => ∃ D g, D.n = 0 ∧ ms = [msG 2 1] ∧ Fin (X 0) D ∧ Fin (X 2) D ∧ (X 1).S = [(i1, slV (sl1 3 D))] ∧ (X 1).Tl = [(i1, .map (some g))] ∧ Tld w col g [(0, .bool true)]
 | _ => ∃ D, D.n = 0 ∧ ms = [] ∧ Fin (X 0) D ∧ Fin (X 2) D
def Wts (X : Nat → RpS) : Prop := WtOk (X 0) ∧ WtOk (X 1) ∧ WtOk (X 2)
def Ph (j : Nat) (w : World) (col : Col) (nb : Nat) (RA DA : Option Addr) (rc dc : Nat) (b : Nat → RpB) (mn : Nat) : Prop :=
 ∃ MA mc ms X, NetS w col nb RA DA rc dc MA mn mc ms b X ∧ (j < 8 → Wts X) ∧ PhF j w col ms X
theorem Ph.len {j : Nat} {w : World} {col : Col} {nb : Nat} {RA DA : Option Addr} {rc dc : Nat} {b : Nat → RpB} {mn : Nat} (h : Ph j w col nb RA DA rc dc b mn) (hj : j ≤ 8) : (j < 8 → 0 < mn) ∧ (j = 8 → mn = 0) := by
 obtain ⟨MA, mc, ms, X, hN, _, hF⟩ := h
 have hl := RdM.len hN.M
 match j, hj with
 | 0, _ => obtain ⟨D, p, hm, _, rfl, _⟩ := hF; exact ⟨fun _ => by simp at hl; omega, fun h => by omega⟩
 | 1, _ => obtain ⟨D, _, p, hm, _, _, rfl, _⟩ := hF; exact ⟨fun _ => by simp at hl; omega, fun h => by omega⟩
 | 2, _ => obtain ⟨D, _, _, p, hm, _, _, _, rfl, _⟩ := hF; exact ⟨fun _ => by simp at hl; omega, fun h => by omega⟩
 | 3, _ => obtain ⟨D, _, _, p, hm, _, _, _, rfl, _⟩ := hF; exact ⟨fun _ => by simp at hl; omega, fun h => by omega⟩
 | 4, _ => obtain ⟨D, _, _, g, _, _, _, rfl, _⟩ := hF; exact ⟨fun _ => by simp at hl; omega, fun h => by omega⟩
 | 5, _ => obtain ⟨D, _, g, _, _, rfl, _⟩ := hF; exact ⟨fun _ => by simp at hl; omega, fun h => by omega⟩
 | 6, _ => obtain ⟨D, g, _, rfl, _⟩ := hF; exact ⟨fun _ => by simp at hl; omega, fun h => by omega⟩
 | 7, _ => obtain ⟨D, g, _, rfl, _⟩ := hF; exact ⟨fun _ => by simp at hl; omega, fun h => by omega⟩
 | 8, _ => obtain ⟨D, _, rfl, _⟩ := hF; exact ⟨fun h => by omega, fun _ => by simpa using hl.symm⟩
def Ph1 (j : Nat) (w : World) (col : Col) (nb : Nat) (RA DA : Option Addr) (rc dc : Nat) (b : Nat → RpB) (w' : World) : Prop :=
 ∃ c' mn', Ph (j + 1) w' c' nb RA DA rc dc b mn' ∧ Ext w col c' ∧ Mod (fun j => (col j).1 < 55) w w'
theorem Wts.set0 {X : Nat → RpS} (h : Wts X) {x : RpS} (hx : WtOk x) : Wts (setF X 0 x) := ⟨hx, h.2.1, h.2.2⟩
theorem Wts.set1 {X : Nat → RpS} (h : Wts X) {x : RpS} (hx : WtOk x) : Wts (setF X 1 x) := ⟨h.1, hx, h.2.2⟩
theorem Wts.set2 {X : Nat → RpS} (h : Wts X) {x : RpS} (hx : WtOk x) : Wts (setF X 2 x) := ⟨h.1, h.2.1, hx⟩
theorem LX.still {X : Nat → RpS} {p : Nat} {D : SV} (q hm : Nat) (H : List IntV) (P : Prop) : Still (fun c w => P ∧ Lead w c q hm D H) := (Still.const P).and (Lead.still _ _ _ _)
theorem phase_ok (j : Nat) (hj : j < 8) (w : World) (col : Col) (nb : Nat) (RA DA : Option Addr) (rc dc : Nat) (b : Nat → RpB) (mn : Nat) (h : Ph j w col nb RA DA rc dc b mn) : Dlv w nb (Ph1 j w col nb RA DA rc dc b) := by
 obtain ⟨MA, mc, ms, X, hN, hW, hF⟩ := h
 replace hW := hW hj
 have hl := RdM.len hN.M
 match j, hj with
 | 0, _ =>
  obtain ⟨D, p, hm, hD, rfl, h0, h2, hX, hL⟩ := hF
  obtain rfl : mn = 2 := by simpa using hl.symm
  refine (preStep w col nb RA DA rc dc MA 1 mc 0 D [ms1 1 2 1 0 D] b X hN (by omega) (.inl rfl) hD h0 hW.1 _ hL (Lead.still _ _ _ _)).mono ?_
  rintro e w' ⟨he, MA', mn', mc', D', X', c', hD', hN', hH, hw, hG, hx, hm'⟩
  exact ⟨he, c', mn', ⟨MA', mc', _, _, hN', fun _ => hW.set0 hw, D, D', p, hm, hD, hD', rfl, hH, h2, hX, hG⟩, hx, hm'⟩
 | 1, _ =>
  obtain ⟨D, D0, p, hm, hD, hD0, rfl, h0, h2, hX, hL⟩ := hF
  obtain rfl : mn = 2 := by simpa using hl.symm
  refine (preStep w col nb RA DA rc dc MA 1 mc 2 D [ms1 0 1 2 1 D0] b X hN (by omega) (.inr rfl) hD h2 hW.2.2 _ hL (Lead.still _ _ _ _)).mono ?_
  rintro e w' ⟨he, MA', mn', mc', D', X', c', hD', hN', hH, hw, hG, hx, hm'⟩
  exact ⟨he, c', mn', ⟨MA', mc', _, _, hN', fun _ => hW.set2 hw, D, D0, D', p, hm, hD, hD0, hD', rfl, h0, hH, hX, hG⟩, hx, hm'⟩
 | 2, _ =>
  obtain ⟨D, D0, D2, p, hm, hD, hD0, hD2, rfl, h0, h2, hX, hL⟩ := hF
  obtain rfl : mn = 2 := by simpa using hl.symm
  refine (ok2Step w col nb RA DA rc dc MA 1 mc p hm D D0 [ms1 2 1 2 1 D2] b X hN (by omega) hD hD0 hX hW.2.1 hL).mono ?_
  rintro e w' ⟨he, MA', mn', mc', X', c', hN', hH, hw, hG, hx, hm'⟩
  exact ⟨he, c', mn', ⟨MA', mc', _, _, hN', fun _ => hW.set1 hw, D, D0, D2, p, hm, hD, hD0, hD2, rfl, h0, h2, hH, hG⟩, hx, hm'⟩
 | 3, _ =>
  obtain ⟨D, D0, D2, p, hm, hD, hD0, hD2, rfl, h0, h2, hX, hL⟩ := hF
  obtain rfl : mn = 1 := by simpa using hl.symm
  refine (ok3Step w col nb RA DA rc dc MA 0 mc p hm D D0 D2 [] b X hN (by omega) hD hD0 hD2 hX hW.2.1 hL).mono ?_
  rintro e w' ⟨he, MA', mn', mc', g, X', c', hN', hS, hT, hw, hG, hx, hm'⟩
  exact ⟨he, c', mn', ⟨MA', mc', _, _, hN', fun _ => hW.set1 hw, D, D0, D2, g, hD, hD0, hD2, rfl, h0, h2, hS, hT, hG⟩, hx, hm'⟩
 | 4, _ =>
  obtain ⟨D, D0, D2, g, hD, hD0, hD2, rfl, h0, h2, hS, hT, hG⟩ := hF
  obtain rfl : mn = 2 := by simpa using hl.symm
  refine (comStep w col nb RA DA rc dc MA 1 mc 0 D D0 [ms1 1 2 5 0 D] b X hN (by omega) (.inl rfl) hD hD0 h0 hW.1 _ hG (Tld.still _ _)).mono ?_
  rintro e w' ⟨he, MA', mn', mc', X', c', hN', ⟨hS', hn', ho'⟩, hw, hG', hx, hm'⟩
  exact ⟨he, c', mn', ⟨MA', mc', _, _, hN', fun _ => hW.set0 hw, D, D2, g, hD, hD2, rfl, ⟨hS', hn', ho'⟩, h2, hS, hT, hG'⟩, hx, hm'⟩
 | 5, _ =>
  obtain ⟨D, D2, g, hD, hD2, rfl, h0, h2, hS, hT, hG⟩ := hF
  obtain rfl : mn = 2 := by simpa using hl.symm
  refine (comStep w col nb RA DA rc dc MA 1 mc 2 D D2 [msG 0 1] b X hN (by omega) (.inr rfl) hD hD2 h2 hW.2.2 _ hG (Tld.still _ _)).mono ?_
  rintro e w' ⟨he, MA', mn', mc', X', c', hN', ⟨hS', hn', ho'⟩, hw, hG', hx, hm'⟩
  exact ⟨he, c', mn', ⟨MA', mc', _, _, hN', fun _ => hW.set2 hw, D, g, hD, rfl, h0, ⟨hS', hn', ho'⟩, hS, hT, hG'⟩, hx, hm'⟩
 | 6, _ =>
  obtain ⟨D, g, hD, rfl, h0, h2, hS, hT, hG⟩ := hF
  obtain rfl : mn = 2 := by simpa using hl.symm
  refine (got1Step w col nb RA DA rc dc MA 1 mc g D [msG 2 1] b X hN (by omega) hS hT hW.2.1 hG).mono ?_
  rintro e w' ⟨he, MA', mn', mc', X', c', hN', hS', hT', hw, hG', hx, hm'⟩
  exact ⟨he, c', mn', ⟨MA', mc', _, _, hN', fun _ => hW.set1 hw, D, g, hD, rfl, h0, h2, hS', hT', hG'⟩, hx, hm'⟩
 | 7, _ =>
  obtain ⟨D, g, hD, rfl, h0, h2, hS, hT, hG⟩ := hF
  obtain rfl : mn = 1 := by simpa using hl.symm
  refine (got2Step w col nb RA DA rc dc MA 0 mc g D [] b X hN (by omega) hS hT hW.2.1 hG).mono ?_
  rintro e w' ⟨he, MA', mn', mc', X', c', hN', hx, hm'⟩
  exact ⟨he, c', mn', ⟨MA', mc', _, _, hN', fun h => absurd h (by omega), D, hD, rfl, h0, h2⟩, hx, hm'⟩
set_option maxRecDepth 100000
theorem all_ok (w : World) (col : Col) (nb : Nat) (RA DA : Option Addr) (rc dc : Nat) (b : Nat → RpB) (mn : Nat) (h : Ph 0 w col nb RA DA rc dc b mn) :
  Calls Tryz.prog 13 #[.pointer (some ⟨nb, 0, none⟩), .int .i64 20] w fun e w' => e = .returned (.tuple #[]) ∧ ∃ c', Ph 8 w' c' nb RA DA rc dc b 0 ∧ Ext w col c' ∧ Mod (fun j => (col j).1 < 55) w w' := by
 replace h := zH h
 go_enter Tryz.func13, Tryz.ntmps13
 go_wp2_with fail
 go_loopw [4] (fun y wr => ∃ (j mn : Nat) (c' : Col), y = .int .i64 (j : Int) ∧ j ≤ 8 ∧ Ph j wr c' nb RA DA rc dc b mn ∧ Ext w col c' ∧ Mod (fun j => (col j).1 < 55) w wr) (fun y _ => 8 - (intOf y).toNat)
 case atStart => exact ⟨0, mn, col, rfl, by omega, h.out, Ext.refl _ _, Mod.refl _ _⟩
 case round =>
  obtain ⟨j, mn1, c1, rfl, hj, hP, hx, hm⟩ := hrel
  obtain ⟨hl1, hl2⟩ := hP.len hj
  have hP0 := hP
  obtain ⟨MA, mc, ms, X, hN, _, _⟩ := hP0
  have n2 : wr.cell? ⟨nb, 2, none⟩ = some (.slice MA mn1 mc) := hN.net.cell_ rfl
  have ln := hN.net.lt
  clear hN
  replace hP := zH hP
  replace hx := zH hx
  replace hm := zH hm
  have hj20 : ((j : Nat) : Int) < 20 := by omega
  rcases Nat.lt_or_ge j 8 with h8 | h8
  ·have hmn := hl1 h8
   have kD := zH (phase_ok j h8 wr c1 nb RA DA rc dc b mn1 hP.out)
   have hmn' : (0 : Int) < (mn1 : Int) := by omega
   go_wp2_with fail
   refine kD.out.mono ?_
   rintro e w2 ⟨rfl, c2, mn2, hP2, hx2, hm2⟩
   dsimp only
   have hx' := zH (hx.out.trans hx2 hm.out.size)
   have hm' := zH (hm.out.then hm2 (fun i hi hh => by rwa [hx.out i hi] at hh))
   clear hx2 hm2 kD n2 ln
   replace hP2 := zH hP2
   go_wp2_with fail
   go_roundw
   case measure => simp only [intOf]; omega
   exact ⟨j + 1, mn2, c2, by push_cast; rfl, by omega, hP2.out, hx'.out, hm'.out⟩
  ·obtain rfl : j = 8 := by omega
   obtain rfl := hl2 rfl
   go_wp2_with fail
   go_end0
   exact ⟨rfl, c1, hP.out, hx.out, hm.out⟩
theorem last_one {x : Rs} {ys : List Rs} (h : LastOf [x] ys) : ys = [x] := by
 have hm : ∀ y ∈ ys, y = x := fun y hy => by
  have := h.last y hy
  unfold lastOf at this
  have h2 := List.mem_of_find?_eq_some this
  simpa using h2
 match ys, h, hm with
 | [], h, _ =>
  obtain ⟨y, hy, _⟩ := h.all x List.mem_cons_self
  cases hy
 | [y], _, hm => rw [hm y List.mem_cons_self]
 | y :: z :: t, h, hm =>
  have h1 := hm y List.mem_cons_self
  have h2 := hm z (List.mem_cons_of_mem _ List.mem_cons_self)
  have h3 := (List.pairwise_cons.1 h.sorted).1 z List.mem_cons_self
  rw [h1, h2] at h3
  unfold isLt at h3
  simp at h3
theorem slots1_ok (w : World) (q sl : Nat) (c3 : w.cell? ⟨q, 3, none⟩ = some (.map (some sl))) (D : SV) (hD : D.n = 0) (hS : MapK w sl [(i1, slV (sl1 3 D))]) :
  Calls Tryz.prog 23 #[.pointer (some ⟨q, 0, none⟩)] w fun e w' => ∃ A c, e = .returned (.slice A 1 c) ∧ OwR w' A 1 c [sl1 3 D] ∧ Fresh w A ∧ Mod none_ w w' := by
 have hq := World.block_lt_of_cell? w _ c3
 dsimp only at hq
 have hslt := hS.lt
 replace hS := zH hS
 replace hD := zH hD
 go_enter Tryz.func23, Tryz.ntmps23
 go_wp2_with (refine rangeK_it rfl (.tmp 11) rfl Tryz.underlying82 sl _ rfl hS.out ?_; intro w1 hit hm hsz; replace hit := zH hit; have hm1 := zH hm; have hs1 := zH hsz; clear hm hsz)
 go_frame
 go_loopw [3] (fun v wr => ∃ (R : List InstV) (A : Option Addr) (k c : Nat) (xs : List Rs), v = .slice A k c ∧ OwR wr A k c xs ∧ Fresh w1 A ∧ ItK wr sl w.heap.size [(i1, slV (sl1 3 D))] R ∧ ((xs = [] ∧ R = [(i1, slV (sl1 3 D))]) ∨ (xs = [sl1 3 D] ∧ R = [])) ∧ Mod (· = w.heap.size) w1 wr) (fun _ wr => wr.rangeLeft sl w.heap.size)
 case atStart => exact ⟨_, none, 0, 0, [], rfl, Ow.nil _ _ _, (fun a ha => by cases ha), hit.out, .inl ⟨rfl, rfl⟩, Mod.refl _ _⟩
 case round =>
  obtain ⟨R, A, k, c, xs, rfl, how, hf, hI, hcase, hm⟩ := hrel
  have hMr := zH (hm1.out.then hm (fun j hj e => by have e2 : j = w.heap.size := e; omega))
  rcases hI.next 0 with ⟨hR0, hrun⟩ | ⟨p, w2, hpR, hpS, hI2, ⟨_, hml⟩, hm2, hs2, hrun, hen⟩
  ·have hxs : xs = [sl1 3 D] := by
    rcases hcase with ⟨_, h2⟩ | ⟨h1, _⟩
    ·rw [hR0] at h2; cases h2
    ·exact h1
   subst hxs
   have hk : k = 1 := (OwR.len how).symm
   subst hk
   have kL := zH (last_ok wr A 1 c [sl1 3 D] (Ow.rd how) (fun x hx => by rw [List.mem_singleton.1 hx]; exact i1_in) (by omega))
   clear how hf hI hcase hm
   go_wp2_with fail
   refine kL.out.mono ?_
   rintro e w3 ⟨A3, n3, c3', ys, rfl, hL, ho3, hf3, hm3⟩
   dsimp only
   have hys := last_one hL
   subst hys
   have hn3 : n3 = 1 := (OwR.len ho3).symm
   subst hn3
   have hend := zH (hMr.out.trans hm3)
   have hf3' : Hid (Fresh w A3) := zH (fun a ha => Nat.le_trans hMr.out.size (hf3 a ha))
   clear hL hf3 hm3
   replace ho3 := zH ho3
   go_wp2_with fail
   go_ret
   exact ⟨A3, c3', rfl, ho3.out, hf3'.out, hend.out⟩
  ·obtain ⟨rfl, rfl⟩ : xs = [] ∧ R = [(i1, slV (sl1 3 D))] := by
    rcases hcase with h | ⟨_, h2⟩
    ·exact h
    ·rw [h2] at hpR; cases hpR
   obtain rfl := List.mem_singleton.1 hpR
   replace hs2 := zH hs2
   have hk : k = 0 := (OwR.len how).symm
   subst hk
   have hdr : dropI (i1, slV (sl1 3 D)).1 [(i1, slV (sl1 3 D))] = [] := by simp [dropI]
   rw [hdr] at hI2
   unfold slV isVal at hrun hen
   dsimp only [sl1] at hrun hen
   obtain ⟨w4, hw4⟩ : ∃ w4, w4 = (w2.alloc (.cells #[.int .i64 i1.r, .int .i64 i1.n] 27)).alloc (.cells #[.int .i64 0, .int .i64 3, .int .i64 0, .int .i64 e1.o.c, .int .i64 e1.o.s, .int .i64 e1.o.k, .string (txt e1.o.acct), .string (txt e1.o.peer), .int .i64 e1.o.sum, .slice L0.a L0.n L0.c, .int .i64 e1.o.per, .int .i64 e1.o.hold, .string (txt e1.o.note), .bool e1.none, .slice D.a D.n D.c] 55) := ⟨_, rfl⟩
   have hb4 : Blk w4 (w2.heap.size + 1) 55 #[.int .i64 0, .int .i64 3, .int .i64 0, .int .i64 e1.o.c, .int .i64 e1.o.s, .int .i64 e1.o.k, .string (txt e1.o.acct), .string (txt e1.o.peer), .int .i64 e1.o.sum, .slice L0.a L0.n L0.c, .int .i64 e1.o.per, .int .i64 e1.o.hold, .string (txt e1.o.note), .bool e1.none, .slice D.a D.n D.c] := by
    have := Blk.new (w2.alloc (.cells #[.int .i64 i1.r, .int .i64 i1.n] 27)) 55 #[.int .i64 0, .int .i64 3, .int .i64 0, .int .i64 e1.o.c, .int .i64 e1.o.s, .int .i64 e1.o.k, .string (txt e1.o.acct), .string (txt e1.o.peer), .int .i64 e1.o.sum, .slice L0.a L0.n L0.c, .int .i64 e1.o.per, .int .i64 e1.o.hold, .string (txt e1.o.note), .bool e1.none, .slice D.a D.n D.c]
    rw [hw4]; simpa using this
   have hbi4 := zH (show Blk w4 w2.heap.size 27 #[.int .i64 i1.r, .int .i64 i1.n] from by rw [hw4]; exact (Blk.new w2 _ _).alloc _)
   have hm4' := zH (show Mod none_ w2 w4 from by rw [hw4]; exact ((Mod.refl none_ w2).alloc _).alloc _)
   have hM2 := zH (hMr.out.then hm2 (fun j hj e => by have e2 : j = w.heap.size := e; omega))
   have hm12 := zH (hm.trans hm2)
   have hmr2 := zH hm2
   have hsw2 := zH (show w.heap.size < w2.heap.size from by have := hI2; obtain ⟨_, _, _, _, ⟨_, _, _, _, _, _, _, _, _, h5, _⟩, _⟩ := this; exact (Array.getElem?_eq_some_iff.1 h5).1)
   clear hI hcase hm hm2 hpR hpS
   replace how := zH how
   replace hf := zH hf
   replace hI2 := zH hI2
   replace hw4 := zH hw4
   replace hb4 := zH hb4
   go_upto_region 7 with fail
   rw [← hw4.out]
   replace hb4 := hb4.out
   have s1_ : w4.cell? ⟨w2.heap.size + 1, 1, none⟩ = some (.int .i64 3) := hb4.cell_ rfl
   have lb4 := hb4.lt
   have hrAne : ∀ q, fp A q → ¬ q = w.heap.size := fun q ⟨a, ha, hq⟩ e => by have := hf.out a ha; have := hs1.out; omega
   have hoa := zH (Ow.mod0 (Ow.mod0 (Ow.mod how.out hmr2.out (fun q hq e => hrAne q hq e)) hm4'.out) ((Mod.refl none_ w4).alloc (.cells #[.int .i64 i1.r, .int .i64 i1.n, .int .i64 0, .int .i64 3, .int .i64 0, .int .i64 e1.o.c, .int .i64 e1.o.s, .int .i64 e1.o.k, .string (txt e1.o.acct), .string (txt e1.o.peer), .int .i64 e1.o.sum, .slice L0.a L0.n L0.c, .int .i64 e1.o.per, .int .i64 e1.o.hold, .string (txt e1.o.note), .bool e1.none, .slice D.a D.n D.c] 57)))
   have hra := zH (show RdR (w4.alloc (.cells #[.int .i64 i1.r, .int .i64 i1.n, .int .i64 0, .int .i64 3, .int .i64 0, .int .i64 e1.o.c, .int .i64 e1.o.s, .int .i64 e1.o.k, .string (txt e1.o.acct), .string (txt e1.o.peer), .int .i64 e1.o.sum, .slice L0.a L0.n L0.c, .int .i64 e1.o.per, .int .i64 e1.o.hold, .string (txt e1.o.note), .bool e1.none, .slice D.a D.n D.c] 57)) (some ⟨w4.heap.size, 0, none⟩) 1 [sl1 3 D] from rdR_one w4 (sl1 3 D))
   replace hb4 := zH hb4
   go_wp2_with (first
    | (refine wpList_load_blk rfl 55 (.tmp 5) rfl (w2.heap.size + 1) 0 rfl hb4.out [.int .i64 0, .int .i64 3, .int .i64 0, .int .i64 e1.o.c, .int .i64 e1.o.s, .int .i64 e1.o.k, .string (txt e1.o.acct), .string (txt e1.o.peer), .int .i64 e1.o.sum, .slice L0.a L0.n L0.c, .int .i64 e1.o.per, .int .i64 e1.o.hold, .string (txt e1.o.note), .bool e1.none, .slice D.a D.n D.c] rfl Tryz.underlying55 rfl slot_size ?_)
    | (refine wpList_load_blk rfl 27 (.tmp 4) rfl w2.heap.size 0 rfl hbi4.out [.int .i64 i1.r, .int .i64 i1.n] rfl Tryz.underlying27 rfl inst_size ?_)
    | (at_builtin; refine appR rfl (.tmp 26) (.tmp 30) rfl rfl hoa.out rfl hra.out (by omega) ?_; intro A5 c5 w5 ho5 hm5 hA5))
   have hnew5 : ∀ q, fp A q → w1.heap.size ≤ q := fun q ⟨a, ha, hq⟩ => by have := hf.out a ha; omega
   have hsA : ∀ q, fp A5 q → w1.heap.size ≤ q := by
    intro q hq
    rcases hA5 with rfl | rfl
    ·exact hnew5 q hq
    ·obtain ⟨a, ha, rfl⟩ := hq
     cases ha
     have h1 := hm4'.out.size
     have h2 := hm12.out.size
     exact Nat.le_trans (Nat.le_trans h2 h1) (by simp)
   have hm45 : Mod (fp A) w2 w5 := ((hm4'.out.alloc _).any _).trans hm5
   have hIz := zH (hI2.out.mod hm45 (fun hh => by have := hnew5 _ hh; have := hs1.out; omega) (fun hh => by have := hnew5 _ hh; have := hs1.out; omega))
   have hl5 := zH (show w5.rangeLeft sl w.heap.size < wr.rangeLeft sl w.heap.size from by
    have lsl : sl < w2.heap.size := by have := hsw2.out; omega
    have e1_ := hm45.block sl lsl (fun hh => by have := hnew5 _ hh; have := hs1.out; omega)
    have e2_ := hm45.block w.heap.size hsw2.out (fun hh => by have := hnew5 _ hh; have := hs1.out; omega)
    have e3_ : w5.rangeLeft sl w.heap.size = w2.rangeLeft sl w.heap.size := by unfold World.rangeLeft; rw [e1_, e2_]
    rw [e3_]; exact hml)
   have hmz := zH (show Mod (· = w.heap.size) w1 w5 from hm12.out.then hm45 (fun q hq hh => by have := hnew5 q hh; omega))
   have hsA' : Hid (Fresh w1 A5) := zH (fun a ha => hsA _ ⟨a, ha, rfl⟩)
   clear hm5 hA5 hm45 hnew5 hsA
   replace ho5 := zH ho5
   go_wp2_with fail
   go_roundw
   case rel => exact ⟨[], A5, 1, c5, [sl1 3 D], rfl, ho5.out, hsA'.out, hIz.out, .inr ⟨rfl, rfl⟩, hmz.out⟩
   case measure => exact hl5.out
theorem rlist_ok (w : World) (q : Nat) (A : Option Addr) (n c : Nat) (lv : List Value) (hc : w.cell? ⟨q, 3, none⟩ = some (.slice A n c)) (ho : Ow w 40 10 A n c lv) (hone : ∀ u ∈ lv, u.oneCell' = true) (hn : n ≤ 1000) :
  Calls Tryz.prog 55 #[.pointer (some ⟨q, 0, none⟩)] w fun e w' => ∃ A' c', e = .returned (.slice A' n c') ∧ Mod none_ w w' := by
 have lq := World.block_lt_of_cell? w _ hc
 dsimp only at lq
 have kC := zH (cloneOd_ok w lv hone A n c (Ow.rd ho) (by omega))
 clear ho
 go_enter Tryz.func55, Tryz.ntmps55
 go_wp2_with fail
 refine kC.out.mono ?_
 rintro e w1 ⟨A', c', rfl, _, _, hm⟩
 dsimp only
 replace hm := zH hm
 go_wp2_with fail
 go_ret
 exact ⟨A', c', rfl, hm.out⟩
theorem list_ok (w : World) (col : Col) (k : Nat) (b : RpB) (me n : Int) (X : RpS) (h : RpM w col k b me n X) (hone : ∀ u ∈ X.lv, u.oneCell' = true) (hn : X.ln ≤ 1000) :
  Calls Tryz.prog 22 #[.pointer (some ⟨b.q, 0, none⟩)] w fun e w' => ∃ A' c', e = .returned (.slice A' X.ln c') ∧ Mod none_ w w' := by
 have q4 : w.cell? ⟨b.q, 4, none⟩ = some (.pointer (some ⟨b.rn.q, 0, none⟩)) := h.q.cell_ rfl
 have lq := h.q.lt
 have kL := zH (rlist_ok w b.rn.q X.LA X.ln X.lc X.lv (h.rn.q.cell_ rfl) h.ls hone hn)
 clear h
 go_enter Tryz.func22, Tryz.ntmps22
 go_wp2_with fail
 refine kL.out.mono ?_
 rintro e w1 ⟨A', c', rfl, hm⟩
 dsimp only
 replace hm := zH hm
 go_wp2_with fail
 go_ret
 exact ⟨A', c', rfl, hm.out⟩
theorem NetS.mod0 {w w' : World} {col : Col} {nb : Nat} {RA DA : Option Addr} {rc dc : Nat} {MA : Option Addr} {mn mc : Nat} {ms : List Ms} {b : Nat → RpB} {X : Nat → RpS} (h : NetS w col nb RA DA rc dc MA mn mc ms b X) (hm : Mod none_ w w') : NetS w' col nb RA DA rc dc MA mn mc ms b X :=
 ⟨h.net.mod hm (fun h => h), h.cn, h.R.mod hm (fun _ _ h => h), h.cR, Rd.mod0 h.M hm, h.cap, fun i hi => (h.r i hi).mod0 hm⟩
theorem NetS.ext {w : World} {col col' : Col} {nb : Nat} {RA DA : Option Addr} {rc dc : Nat} {MA : Option Addr} {mn mc : Nat} {ms : List Ms} {b : Nat → RpB} {X : Nat → RpS} (h : NetS w col nb RA DA rc dc MA mn mc ms b X) (he : Ext w col col') : NetS w col' nb RA DA rc dc MA mn mc ms b X :=
 ⟨h.net, (he _ h.net.lt).trans h.cn, h.R, fun k hk => (he _ (h.R.lt k hk)).trans (h.cR k hk), h.M, h.cap, fun i hi => (h.r i hi).ext he⟩
structure SubF (w : World) (col : Col) (nb : Nat) (RA DA : Option Addr) (rc dc : Nat) (b : Nat → RpB) (X : Nat → RpS) (A : Option Addr) (c : Nat) (D : SV) (p hm : Nat) : Prop where
 d : D.n = 0
 N : NetS w col nb RA DA rc dc none 0 0 [] b X
 o : OwM w A 2 c [ms1 1 0 1 0 D, ms1 1 2 1 0 D]
 wts : Wts X
 B0 : Blank (X 0)
 B2 : Blank (X 2)
 L : LeadX (X 1) p D
 Ld : Lead w col p hm D [(1, sv D)]
theorem SubF.mod0 {w w' : World} {col : Col} {nb : Nat} {RA DA : Option Addr} {rc dc : Nat} {b : Nat → RpB} {X : Nat → RpS} {A : Option Addr} {c : Nat} {D : SV} {p hm : Nat} (h : SubF w col nb RA DA rc dc b X A c D p hm) (hmm : Mod none_ w w') : SubF w' col nb RA DA rc dc b X A c D p hm :=
 ⟨h.d, h.N.mod0 hmm, Ow.mod0 h.o hmm, h.wts, h.B0, h.B2, h.L, Lead.still p hm D _ col w col w' _ h.Ld (Ext.refl _ _) hmm (fun _ _ hh => hh.elim)⟩
theorem SubF.ext {w : World} {col col' : Col} {nb : Nat} {RA DA : Option Addr} {rc dc : Nat} {b : Nat → RpB} {X : Nat → RpS} {A : Option Addr} {c : Nat} {D : SV} {p hm : Nat} (h : SubF w col nb RA DA rc dc b X A c D p hm) (he : Ext w col col') : SubF w col' nb RA DA rc dc b X A c D p hm :=
 ⟨h.d, h.N.ext he, h.o, h.wts, h.B0, h.B2, h.L, Lead.still p hm D _ col w col' w none_ h.Ld he (Mod.refl _ _) (fun _ _ hh => hh.elim)⟩
def SubAt (w1 W : World) (col : Col) (nb : Nat) (RA DA : Option Addr) (rc dc : Nat) (b : Nat → RpB) (e : Ending) (w' : World) : Prop :=
 ∃ A c D p hm X' c', e = .returned (.tuple #[.slice A 2 c, .agg #[.int .i64 1, .int .i64 1], .int .i64 0]) ∧ SubF w' c' nb RA DA rc dc b X' A c D p hm ∧ Ext w1 col c' ∧ (∀ j, w1.heap.size ≤ j → j < W.heap.size → c' j = (97, 0)) ∧ (∃ F, Mod F W w' ∧ ∀ j, w1.heap.size ≤ j → j < W.heap.size → ¬ F j) ∧ Mod (own col 1) w1 w'
theorem sub_at (w1 W : World) (col : Col) (nb : Nat) (RA DA : Option Addr) (rc dc : Nat) (dl : List Value) (b : Nat → RpB) (X : Nat → RpS) (h : NetJ w1 col nb 3 RA DA rc dc dl b X) (hm : Mod none_ w1 W) :
  Calls Tryz.prog 12 #[.pointer (some ⟨(b 1).q, 0, none⟩), .agg #[.int .i64 e1.o.c, .int .i64 e1.o.s, .int .i64 e1.o.k, .string (txt e1.o.acct), .string (txt e1.o.peer), .int .i64 e1.o.sum, .slice L0.a L0.n L0.c, .int .i64 e1.o.per, .int .i64 e1.o.hold, .string (txt e1.o.note)]] W (SubAt w1 W col nb RA DA rc dc b) := by
 obtain ⟨c1, hc1⟩ : ∃ c1 : Col, c1 = fun q => if q < w1.heap.size then col q else if q < W.heap.size then (97, 0) else (99, 0) := ⟨_, rfl⟩
 have he1 : Ext w1 col c1 := fun q hq => by rw [hc1]; exact if_pos hq
 have hc97 : ∀ q, w1.heap.size ≤ q → q < W.heap.size → c1 q = (97, 0) := fun q h1 h2 => by rw [hc1]; dsimp only; rw [if_neg (by omega), if_pos h2]
 have hs := hm.size
 have hc99 : ∀ q, W.heap.size ≤ q → c1 q = (99, 0) := fun q h1 => by rw [hc1]; dsimp only; rw [if_neg (by omega), if_neg (by omega)]
 have hN := (h.ext he1).mod hm (fun h => h) (fun _ _ h => h) (fun _ _ h => h) (fun _ _ => Off.none_ _ _ _ _)
 refine (submit_ok W c1 (b 1) (X 1) (hN.r 1 (by omega)).1 (hN.r 1 (by omega)).2.1 hc99).mono ?_
 rintro e w' ⟨A, c, D, p, hp, X', c', he, hD, ho, hr, hH, htl, hld, hL, hw, hx, hmm⟩
 have hcn : c1 nb = (3, 0) := hN.cn
 have hfar : ∀ i', i' < 3 → i' ≠ 1 → RpM w' c' i' (b i') (i' : Int) 3 (X i') := fun i' hi' hne => ((hN.r i' hi').1.ext hx).far hmm (by
  intro j hj hh c2 _ e2
  rw [hx j hj] at e2
  unfold own at hh
  rw [e2] at hh
  exact hne hh)
 have hn2 : Blk w' nb 45 #[.slice RA 3 rc, .slice DA 3 dc, .slice none 0 0] := hN.net.mod hmm (by unfold own; rw [hcn]; decide)
 have hR2 : Ow w' 48 1 RA 3 rc (ptrs b 3) := hN.R.mod hmm (fun q hq => by unfold own; rw [hN.cR q hq]; decide)
 refine ⟨A, c, D, p, hp, setF X 1 X', c', he, ⟨hD, ⟨hn2, (hx _ hN.net.lt).trans hcn, hR2, fun q hq => (hx _ (hN.R.lt q hq)).trans (hN.cR q hq), rd_zero, Nat.le_refl _, ?_⟩, ho, ⟨.inl (hN.r 0 (by omega)).2.2, .inl (by show X'.Wt = []; rw [hw]; exact (hN.r 1 (by omega)).2.2), .inl (hN.r 2 (by omega)).2.2⟩, (hN.r 0 (by omega)).2.1, (hN.r 2 (by omega)).2.1, ⟨hH, htl, hld⟩, hL⟩, fun j hj => (hx j (Nat.lt_of_lt_of_le hj hs)).trans (he1 j hj), fun j h1 h2 => (hx j h2).trans (hc97 j h1 h2), ⟨_, hmm, fun j h1 h2 hh => by unfold own at hh; rw [hc97 j h1 h2] at hh; cases hh⟩, ?_⟩
 ·intro i' hi'
  unfold setF
  by_cases e2 : i' = 1
  ·subst e2; rw [if_pos rfl]; exact hr
  ·rw [if_neg e2]; exact hfar i' hi' e2
 ·exact (hm.any (own col 1)).then hmm (fun j hj hh => by unfold own at *; rwa [he1 j hj] at hh)
theorem ask1_ok (w : World) : Calls Tryz.prog 25 #[.int .i64 1, .string ⟨#[97]⟩] w fun e w' => e = .returned (.agg #[.int .i64 e1.o.c, .int .i64 e1.o.s, .int .i64 e1.o.k, .string (txt e1.o.acct), .string (txt e1.o.peer), .int .i64 e1.o.sum, .slice L0.a L0.n L0.c, .int .i64 e1.o.per, .int .i64 e1.o.hold, .string (txt e1.o.note)]) ∧ Mod none_ w w' := by
 have hz := zH (Blk.new w 40 #[.int .i64 0, .int .i64 0, .int .i64 0, .string ⟨#[]⟩, .string ⟨#[]⟩, .int .i64 0, .slice none 0 0, .int .i64 0, .int .i64 0, .string ⟨#[]⟩])
 go_enter Tryz.func25, Tryz.ntmps25
 go_wp2_with (refine wpList_store_blk rfl 40 (.tmp 4) (.tmp 8) rfl w.heap.size 0 _ rfl rfl hz.out (by simp) order_size (by rfl) #[.int .i64 e1.o.c, .int .i64 e1.o.s, .int .i64 e1.o.k, .string (txt e1.o.acct), .string (txt e1.o.peer), .int .i64 e1.o.sum, .slice L0.a L0.n L0.c, .int .i64 e1.o.per, .int .i64 e1.o.hold, .string (txt e1.o.note)] rfl ?_; intro w1 hb1 hm1; go_frame)
 exact ret_order rfl w.heap.size _ rfl hb1 rfl rfl ⟨rfl, ((Mod.refl none_ w).alloc _).in_new (g := w.heap.size) (Nat.le_refl _) hm1⟩
end Go.Proofs.YtfkfiokkjjnhiaaGreat
