/-
  What every law of chapter 1 begins with; the law CoinsAdd, CoinsBetween: the walks. The table of powers of ten reads as the program's text lays it, and the variable of the library's search in place 0 is a number.
-/
import Derived.Test.YthoedngacopaiaaDoorCoinRead
import Derived.Test.YthoedngacopaiaaDoorRefCoin
import Derived.Test.YthoedngacopaiaaDoorRefTimes
import Derived.Test.YthoedngacopaiaaDoorSameI
namespace Go.Proofs.YthoedngacopaiaaDoor
set_option linter.unusedVariables false
open Go.RowKit
/-- What is asked of the world. -/
def Gw (w : World) : Prop := Tab w ∧ ∃ m, w.cell? ⟨0, 0, none⟩ = some (.int .i64 m)
theorem Gw.mod {w w1 : World} (h : Gw w) (hm : Mod none_ w w1) : Gw w1 := by
  obtain ⟨h1, m, h2⟩ := h
  exact ⟨h1.mod hm, m, hm.cell_some h2 (fun hh => hh)⟩
theorem rdi_two (w : World) (e : TypeId) (a b : Int) : RdI (w.alloc (.cells #[.int .i64 a, .int .i64 b] e)) (some ⟨w.heap.size, 0, none⟩) 2 [a, b] := rdn w e 1 2 _ #[.int .i64 a, .int .i64 b] (0, 0) rfl rfl
theorem rdi_three (w : World) (e : TypeId) (g : Nat) (hg : g = w.heap.size) (a b c : Int) : RdI (w.alloc (.cells #[.int .i64 a, .int .i64 b, .int .i64 c] e)) (some ⟨g, 0, none⟩) 3 [a, b, c] := rdn w e 1 3 g #[.int .i64 a, .int .i64 b, .int .i64 c] (0, 0) hg rfl
theorem RdI.alloc {w : World} {A : Option Addr} {n : Nat} {l : List Int} (h : RdI w A n l) (o : Obj) : RdI (w.alloc o) A n l := Rd.alloc h o
theorem k_share : shareL 7 3 = [3, 2, 2] := by decide
theorem k_dec5 : Lib.decDigits 5 = [53] := Lib.decDigits_one (by omega)
theorem k_text : txtC (-5) 2 = [45, 48, 46, 48, 53] := by
  unfold txtC txtN
  rw [show mag (-5) = 5 from rfl, k_dec5]
  decide
theorem k_clamp : clampD 2 = 2 := by decide
theorem i64_lit (x : Int) (h1 : -1000 ≤ x) (h2 : x ≤ 1000) : I64 x := ⟨by omega, by omega⟩
theorem RdPost.of {w : World} {a : Int} {d : Nat} {s : List UInt8} {e : Ending} {w' : World} (h : RdPost s d w e w') (ha : I64 a) (hs : txtC a d = s) : e = .returned (.tuple #[.int .i64 a, .int .i64 0]) ∧ Mod none_ w w' := by
  obtain ⟨r, hr, rfl, hm⟩ := h
  have := hr.at ha hs (fun b hb hbs => txtC_inj hb ha (hbs.trans hs.symm))
  rw [this]
  exact ⟨rfl, hm⟩
set_option maxRecDepth 100000 in
set_option maxHeartbeats 2000000 in
theorem lives_ok (w : World) (hG : Gw w) : Calls Tryd.prog 11 #[] w fun e w' => e = .returned (.bool true) ∧ Mod none_ w w' := by
  have hst : Hid (∀ W, Gw W → Calls Tryd.prog 12 #[.string ⟨#[45, 48, 46, 48, 53]⟩, .int .i64 2] W fun e w' => e = .returned (.tuple #[.int .i64 (-5), .int .i64 0]) ∧ Mod none_ W w') := Lib.hid fun W hW => by
    obtain ⟨h1, m, h2⟩ := hW
    refine (read_ok W [45, 48, 46, 48, 53] 2 m (by simp) h1 h2).mono fun e w' h => ?_
    rw [k_clamp] at h
    exact h.of (i64_lit _ (by omega) (by omega)) k_text
  have htx : Hid (∀ W, Calls Tryd.prog 14 #[.int .i64 (-5), .int .i64 2] W fun e w' => e = .returned (.string ⟨#[45, 48, 46, 48, 53]⟩) ∧ Mod none_ W w') := Lib.hid fun W => by
    refine (text_ok W (-5) 2 (i64_lit _ (by omega) (by omega)) (fun h => absurd h (by decide))).mono fun e w' h => ?_
    rw [k_clamp, k_text] at h
    exact h
  have hto : Hid (∀ W A n c, RdI W A n [1, 2] → Calls Tryd.prog 16 #[.slice A n c] W fun e w' => e = .returned (.tuple #[.int .i64 3, .int .i64 0]) ∧ W = w') := Lib.hid fun W A n c h => by
    have hn := h.len
    refine (total_ok W A n c [1, 2] h (by simp at hn; omega) (by intro x hx; simp at hx; rcases hx with rfl | rfl <;> exact i64_lit _ (by omega) (by omega))).mono fun e w' h => ?_
    exact h
  have hsh : Hid (∀ W, Calls Tryd.prog 18 #[.int .i64 7, .int .i64 3] W fun e w' => ∃ A c, e = .returned (.tuple #[.slice A 3 c, .int .i64 0]) ∧ OwI w' A 3 c (shareL 7 3) ∧ Fresh W A ∧ Mod none_ W w') := Lib.hid fun W => share_yes W 7 3 (i64_lit _ (by omega) (by omega)) (by omega) (by omega)
  replace hG := Lib.hid hG
  go_enter Tryd.func11, Tryd.ntmps11
  go_wp2_with fail
  (with_reducible refine (hsh.out w).mono ?_)
  rintro e w1 ⟨A, c, rfl, ho, hf, hm1⟩
  rw [k_share] at ho
  dsimp only
  replace ho := Lib.hid ho
  replace hf := Lib.hid hf
  replace hm1 := Lib.hid hm1
  go_wp2_with fail
  (with_reducible refine (hst.out w1 (hG.out.mod hm1.out)).mono ?_)
  rintro e w2 ⟨rfl, hm2⟩
  dsimp only
  replace hm2 := Lib.hid hm2
  go_wp2_with fail
  (with_reducible refine (hto.out _ _ _ _ (rdi_two _ _ 1 2)).mono ?_)
  rintro e w3 ⟨rfl, rfl⟩
  dsimp only
  have ho2 : Hid (RdI (w2.alloc (.cells #[.int .i64 1, .int .i64 2] 2)) A 3 [3, 2, 2]) := Lib.hid (Rd.alloc (Rd.mod0 ho.out.rd hm2.out) _)
  go_wp2_with fail
  (with_reducible refine (same1_ok _ A _ 3 3 _ _ [3, 2, 2] [3, 2, 2] (RdI.alloc ho2.out _) (rdi_three _ _ (w2.heap.size + 1) (by simp) 3 2 2) (by omega) (by omega)).mono ?_)
  rintro e w4 ⟨rfl, hm4⟩
  rw [decide_eq_true rfl]
  dsimp only
  replace hm4 := Lib.hid hm4
  go_wp2_with fail
  (with_reducible refine (htx.out _).mono ?_)
  rintro e w5 ⟨rfl, hm5⟩
  dsimp only
  replace hm5 := Lib.hid hm5
  go_wp2_with fail
  go_ret
  exact ⟨rfl, ((((hm1.out.trans hm2.out).alloc _).alloc _).trans hm4.out).trans hm5.out⟩
theorem SPost.of {x : Int} {w : World} {e : Ending} {w' : World} (h : SPost x w e w') {a : Int} {b : Nat} (hx : sumR x = (a, b)) : e = .returned (.tuple #[.int .i64 a, .int .i64 (b : Int)]) ∧ Mod none_ w w' := by
  unfold SPost at h
  rw [hx] at h
  exact h
theorem SumPost.of {x : Int} {w : World} {e : Ending} {w' : World} (h : SumPost (sumR x) w e w') {a : Int} {b : Nat} (hx : sumR x = (a, b)) : e = .returned (.tuple #[.int .i64 a, .int .i64 (b : Int)]) ∧ w = w' := by
  rw [hx] at h
  exact h
set_option maxRecDepth 100000 in
set_option maxHeartbeats 2000000 in
theorem coinsAdd_walk (w : World) (a b : Int) (ha : I64 a) (hb : I64 b) (hG : Gw w) : Calls Tryd.prog 10 #[.int .i64 a, .int .i64 b] w fun e w' => e = .returned (.bool true) ∧ Below w.heap.size w w' := by
  obtain ⟨p1, q1, e1⟩ : ∃ p q, sumR (a + b) = (p, q) := ⟨_, _, rfl⟩
  obtain ⟨p2, q2, e2⟩ : ∃ p q, sumR (a - b) = (p, q) := ⟨_, _, rfl⟩
  obtain ⟨p3, q3, e3⟩ : ∃ p q, sumR (a * b) = (p, q) := ⟨_, _, rfl⟩
  replace ha := Lib.hid ha
  replace hb := Lib.hid hb
  replace hG := Lib.hid hG
  replace e1 := Lib.hid e1
  replace e2 := Lib.hid e2
  replace e3 := Lib.hid e3
  go_enter Tryd.func10, Tryd.ntmps10
  go_wp2_with fail
  refine (lives_ok w hG.out).mono ?_
  rintro e w1 ⟨rfl, hm1⟩
  dsimp only
  replace hm1 := Lib.hid hm1
  go_wp2_with fail
  refine (add_ok _ a b ha.out hb.out).mono ?_
  rintro e w2 hp
  obtain ⟨rfl, rfl⟩ := hp.of e1.out
  clear hp
  dsimp only
  go_wp2_with fail
  refine (radd_ok _ a b ha.out hb.out).mono ?_
  rintro e w2 hp
  obtain ⟨rfl, hm2⟩ := hp.of e1.out
  clear hp
  dsimp only
  replace hm2 := Lib.hid hm2
  go_wp2_with fail
  refine (less_ok _ a b ha.out hb.out).mono ?_
  rintro e w3 hp
  obtain ⟨rfl, rfl⟩ := hp.of e2.out
  clear hp
  dsimp only
  go_wp2_with fail
  refine (rless_ok _ a b ha.out hb.out).mono ?_
  rintro e w3 hp
  obtain ⟨rfl, hm3⟩ := hp.of e2.out
  clear hp
  dsimp only
  replace hm3 := Lib.hid hm3
  go_wp2_with fail
  refine (times_ok _ a b ha.out hb.out).mono ?_
  rintro e w4 hp
  obtain ⟨rfl, rfl⟩ := hp.of e3.out
  clear hp
  dsimp only
  go_wp2_with fail
  refine (rtimes_ok _ a b ha.out hb.out).mono ?_
  rintro e w4 hp
  obtain ⟨rfl, hm4⟩ := hp.of e3.out
  clear hp
  dsimp only
  replace hm4 := Lib.hid hm4
  go_wp2_with fail
  go_ret
  exact ⟨rfl, (((hm1.out.trans hm2.out).trans hm3.out).trans hm4.out).below0⟩
end Go.Proofs.YthoedngacopaiaaDoor
