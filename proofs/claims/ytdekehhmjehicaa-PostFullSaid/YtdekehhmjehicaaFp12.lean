import Derived.Test.YtdekehhmjehicaaFp11
import Derived.Test.YtdekehhmjehicaaFp1
import Derived.ProofKit
import Derived.OpenShut
import Derived.ChangeOld
import Derived.SizedLaws
import Derived.Deep.Slices
import Derived.Deep.Fields
import Derived.ShutString
/-
  The law's small messages, and lives. No condition.
-/
namespace Go.Proofs.Ytdekehhmjehicaa
set_option linter.unusedVariables false
set_option linter.unusedSimpArgs false
open Go.RowKit
def smM (f t : Int) : Mg := ⟨f, t, 6, ⟨⟨0, 1⟩, 8, 0, 0, en0⟩⟩
def sm (f t : Int) : Ms := ⟨smM f t, ⟨none, 0, 0⟩, ⟨none, 0, 0⟩⟩
set_option maxRecDepth 100000 in
theorem small_ok (w : World) (f t : Int) : Calls Try.prog 14 #[.int .i64 f, .int .i64 t] w fun e w' => e = .returned (.agg #[.int .i64 f, .int .i64 t, .int .i64 6, .int .i64 0, .int .i64 1, .int .i64 8, .int .i64 0, .int .i64 0, .int .i64 0, .int .i64 0, .int .i64 0, .string ⟨#[]⟩, .string ⟨#[]⟩, .int .i64 0, .slice none 0 0, .int .i64 0, .int .i64 0, .string ⟨#[]⟩, .bool false, .slice none 0 0]) ∧ Mod none_ w w' := by
  have hb0 := Lib.hid (Blk.new w 40 #[.int .i64 0, .int .i64 0, .int .i64 0, .int .i64 0, .int .i64 0, .int .i64 0, .int .i64 0, .int .i64 0, .int .i64 0, .int .i64 0, .int .i64 0, .string ⟨#[]⟩, .string ⟨#[]⟩, .int .i64 0, .slice none 0 0, .int .i64 0, .int .i64 0, .string ⟨#[]⟩, .bool false, .slice none 0 0])
  go_enter Try.func14, Try.ntmps14
  go_wp2_with (refine wpList_store_blk rfl 40 (.tmp 4) (.tmp 8) rfl w.heap.size 0 _ rfl rfl hb0.out (by simp) msg_size (by rfl) #[.int .i64 f, .int .i64 t, .int .i64 6, .int .i64 0, .int .i64 1, .int .i64 8, .int .i64 0, .int .i64 0, .int .i64 0, .int .i64 0, .int .i64 0, .string ⟨#[]⟩, .string ⟨#[]⟩, .int .i64 0, .slice none 0 0, .int .i64 0, .int .i64 0, .string ⟨#[]⟩, .bool false, .slice none 0 0] rfl ?_; intro w2 hb2 hm2; replace hb2 := Lib.hid hb2; replace hm2 := Lib.hid hm2)
  exact ret_row rfl w.heap.size rfl hb2.out Try.underlying40 rfl msg_size rfl ⟨rfl, ((Mod.refl none_ w).alloc _).in_new (Nat.le_refl _) hm2.out⟩
theorem sm_mem (w : World) (f t : Int) : EnM w (sm f t).m.r.e (sm f t).L (sm f t).D := en0_mem w
theorem sm_okk (f t : Int) : MsOk (sm f t) := ⟨by simp [sm], by simp [sm], (show (Lit.int .i64 en0.o.k).wf = true by decide), fun l hl => by cases hl⟩
theorem sm_nums (f t : Int) : numsE (smM f t).r.e := ⟨(show in64 en0.o.sum from ⟨by decide, by decide⟩), fun l hl => by cases hl⟩
theorem r01 : RtM (sm 0 1) = true := by decide
theorem r12 : RtM (sm 1 2) = true := by decide
theorem r00 : RtM zeroMs = false := by decide
theorem look0 (x : Ms) (xs : List Ms) : lookR (x :: xs) 0 = some x := rfl
/-- everything of the bag is new -/
structure NewBag (w W : World) (p : Nat) (A : Option Addr) (n c : Nat) (xs : List Ms) : Prop where
  st : BagSt W p A n c xs
  mod : Mod none_ w W
  np : w.heap.size ≤ p
  na : ∀ k, fp A k → w.heap.size ≤ k
theorem NewBag.mod0 {w W W' : World} {p : Nat} {A : Option Addr} {n c : Nat} {xs : List Ms} (h : NewBag w W p A n c xs) (hm : Mod none_ W W') : NewBag w W' p A n c xs := ⟨h.st.mod0 hm, h.mod.trans hm, h.np, h.na⟩
theorem NewBag.step {w W W' : World} {p : Nat} {A A' : Option Addr} {n c n' c' : Nat} {xs xs' : List Ms} (h : NewBag w W p A n c xs) (st : BagSt W' p A' n' c' xs') (hm : Mod (bagF p A) W W') (hA : ∀ k, fp A' k → fp A k ∨ W.heap.size ≤ k) : NewBag w W' p A' n' c' xs' :=
  ⟨st, h.mod.then hm (fun i hi hk => by
    rcases hk with hk | hk
    · have := h.np; omega
    · have := h.na i hk; omega), h.np, fun k hk => by
    rcases hA k hk with h1 | h1
    · exact h.na k h1
    · exact Nat.le_trans h.mod.size h1⟩
set_option maxRecDepth 100000 in
set_option maxHeartbeats 8000000 in
theorem lives_ok (w : World) : Calls Try.prog 6 #[] w fun e w' => e = .returned (.bool true) ∧ Mod none_ w w' := by
  go_enter Try.func6, Try.ntmps6
  go_wp2_with fail
  with_reducible refine (bagNew_ok w).mono ?_
  rintro e w1 ⟨rfl, hb1, hm1⟩
  dsimp only
  have nb1 := Lib.hid (show NewBag w w1 w.heap.size none 0 0 [] from ⟨hb1, hm1, Nat.le_refl _, fun k hk => by obtain ⟨a, ha, _⟩ := hk; cases ha⟩)
  clear hb1 hm1
  generalize hp : w.heap.size = p at *
  replace hp := Lib.hid hp
  go_wp2_with fail
  with_reducible refine (small_ok _ 0 1).mono ?_
  rintro e w2 ⟨rfl, hm2⟩
  dsimp only
  have nb2 := Lib.hid (nb1.out.mod0 hm2)
  clear hm2 nb1
  go_wp2_with fail
  with_reducible refine (small_ok _ 1 2).mono ?_
  rintro e w3 ⟨rfl, hm3⟩
  dsimp only
  have nb3 := Lib.hid ((nb2.out.mod0 hm3).mod0 ((Mod.refl none_ w3).alloc (.cells #[.int .i64 0, .int .i64 1, .int .i64 6, .int .i64 0, .int .i64 1, .int .i64 8, .int .i64 0, .int .i64 0, .int .i64 0, .int .i64 0, .int .i64 0, .string ⟨#[]⟩, .string ⟨#[]⟩, .int .i64 0, .slice none 0 0, .int .i64 0, .int .i64 0, .string ⟨#[]⟩, .bool false, .slice none 0 0, .int .i64 1, .int .i64 2, .int .i64 6, .int .i64 0, .int .i64 1, .int .i64 8, .int .i64 0, .int .i64 0, .int .i64 0, .int .i64 0, .int .i64 0, .string ⟨#[]⟩, .string ⟨#[]⟩, .int .i64 0, .slice none 0 0, .int .i64 0, .int .i64 0, .string ⟨#[]⟩, .bool false, .slice none 0 0, .int .i64 0, .int .i64 0, .int .i64 0, .int .i64 0, .int .i64 0, .int .i64 0, .int .i64 0, .int .i64 0, .int .i64 0, .int .i64 0, .int .i64 0, .string ⟨#[]⟩, .string ⟨#[]⟩, .int .i64 0, .slice none 0 0, .int .i64 0, .int .i64 0, .string ⟨#[]⟩, .bool false, .slice none 0 0] 40)))
  clear hm3 nb2
  have hrow : RdM (w3.alloc (.cells #[.int .i64 0, .int .i64 1, .int .i64 6, .int .i64 0, .int .i64 1, .int .i64 8, .int .i64 0, .int .i64 0, .int .i64 0, .int .i64 0, .int .i64 0, .string ⟨#[]⟩, .string ⟨#[]⟩, .int .i64 0, .slice none 0 0, .int .i64 0, .int .i64 0, .string ⟨#[]⟩, .bool false, .slice none 0 0, .int .i64 1, .int .i64 2, .int .i64 6, .int .i64 0, .int .i64 1, .int .i64 8, .int .i64 0, .int .i64 0, .int .i64 0, .int .i64 0, .int .i64 0, .string ⟨#[]⟩, .string ⟨#[]⟩, .int .i64 0, .slice none 0 0, .int .i64 0, .int .i64 0, .string ⟨#[]⟩, .bool false, .slice none 0 0, .int .i64 0, .int .i64 0, .int .i64 0, .int .i64 0, .int .i64 0, .int .i64 0, .int .i64 0, .int .i64 0, .int .i64 0, .int .i64 0, .int .i64 0, .string ⟨#[]⟩, .string ⟨#[]⟩, .int .i64 0, .slice none 0 0, .int .i64 0, .int .i64 0, .string ⟨#[]⟩, .bool false, .slice none 0 0] 40)) (some ⟨w3.heap.size, 0, none⟩) 3 [sm 0 1, sm 1 2, zeroMs] := by
    have h := rdn w3 40 20 3 w3.heap.size (#[.int .i64 0, .int .i64 1, .int .i64 6, .int .i64 0, .int .i64 1, .int .i64 8, .int .i64 0, .int .i64 0, .int .i64 0, .int .i64 0, .int .i64 0, .string ⟨#[]⟩, .string ⟨#[]⟩, .int .i64 0, .slice none 0 0, .int .i64 0, .int .i64 0, .string ⟨#[]⟩, .bool false, .slice none 0 0, .int .i64 1, .int .i64 2, .int .i64 6, .int .i64 0, .int .i64 1, .int .i64 8, .int .i64 0, .int .i64 0, .int .i64 0, .int .i64 0, .int .i64 0, .string ⟨#[]⟩, .string ⟨#[]⟩, .int .i64 0, .slice none 0 0, .int .i64 0, .int .i64 0, .string ⟨#[]⟩, .bool false, .slice none 0 0, .int .i64 0, .int .i64 0, .int .i64 0, .int .i64 0, .int .i64 0, .int .i64 0, .int .i64 0, .int .i64 0, .int .i64 0, .int .i64 0, .int .i64 0, .string ⟨#[]⟩, .string ⟨#[]⟩, .int .i64 0, .slice none 0 0, .int .i64 0, .int .i64 0, .string ⟨#[]⟩, .bool false, .slice none 0 0] : Array Value) (0, 0) rfl rfl
    exact h
  have kP := bagPut_ok _ p none 0 0 [] nb3.out.st (by omega) (some ⟨w3.heap.size, 0, none⟩) 3 3 [sm 0 1, sm 1 2, zeroMs] hrow (fun x hx => by simp at hx; rcases hx with rfl | rfl | rfl <;> exact en0_mem _) (fun x hx => by simp at hx; rcases hx with rfl | rfl | rfl; exact sm_okk 0 1; exact sm_okk 1 2; exact ⟨by simp [zeroMs], by simp [zeroMs], by decide, fun l hl => by cases hl⟩) (by omega)
  have hfil : [sm 0 1, sm 1 2, zeroMs].filter RtM = [sm 0 1, sm 1 2] := by simp [r01, r12, r00]
  rw [hfil] at kP
  unfold PutPost at kP
  have hput : putN [sm 0 1, sm 1 2].length 0 = 2 := rfl
  rw [hput] at kP
  clear hrow hfil hput
  replace kP := Lib.hid kP
  go_wp2_with fail
  with_reducible refine kP.out.mono ?_
  rintro e w4 ⟨A4, c4, rfl, hb4, hm4, hA4⟩
  dsimp only
  have nb4 := Lib.hid (show NewBag w w4 p A4 2 c4 [sm 0 1, sm 1 2] from nb3.out.step hb4 hm4 hA4)
  clear hb4 hm4 hA4 nb3 kP
  go_wp2_with fail
  with_reducible refine (bagTwice_ok w4 p A4 2 c4 _ nb4.out.st (by omega) 0).mono ?_
  rintro e w5 ⟨A5, n5, c5, rfl, hb5, hn5, hm5, hA5⟩
  have nb5 : NewBag w w5 p A5 n5 c5 [sm 0 1, sm 1 2, sm 0 1] := nb4.out.step hb5 hm5 hA5
  have hn5' : n5 = 3 := by have := nb5.st.len; simpa using this.symm
  subst hn5'
  have htw : twiceB [sm 0 1, sm 1 2] 0 2 = true := rfl
  rw [htw]
  dsimp only
  clear hb5 hm5 hA5 nb4 htw
  replace nb5 := Lib.hid nb5
  go_wp2_with fail
  with_reducible refine (bagTake_ok w5 p A5 3 c5 _ nb5.out.st (by omega) 0).mono ?_
  rintro e w6 ⟨v, n6, rfl, hv, hb6, hn6, hm6⟩
  have hv' : v = .tuple #[.agg #[.int .i64 0, .int .i64 1, .int .i64 6, .int .i64 0, .int .i64 1, .int .i64 8, .int .i64 0, .int .i64 0, .int .i64 0, .int .i64 0, .int .i64 0, .string ⟨#[]⟩, .string ⟨#[]⟩, .int .i64 0, .slice none 0 0, .int .i64 0, .int .i64 0, .string ⟨#[]⟩, .bool false, .slice none 0 0], .bool true] := by
    rcases hv with ⟨x, hx, rfl⟩ | ⟨hx, _⟩
    · rw [look0] at hx; cases hx; rfl
    · rw [look0] at hx; cases hx
  subst hv'
  dsimp only
  have nb6 : NewBag w w6 p A5 n6 c5 [sm 1 2, sm 0 1] := nb5.out.step hb6 hm6 (fun k hk => .inl hk)
  have hn6' : n6 = 2 := by have := nb6.st.len; simpa using this.symm
  subst hn6'
  have hq := Lib.hid (Blk.new w6 40 #[.int .i64 0, .int .i64 0, .int .i64 0, .int .i64 0, .int .i64 0, .int .i64 0, .int .i64 0, .int .i64 0, .int .i64 0, .int .i64 0, .int .i64 0, .string ⟨#[]⟩, .string ⟨#[]⟩, .int .i64 0, .slice none 0 0, .int .i64 0, .int .i64 0, .string ⟨#[]⟩, .bool false, .slice none 0 0])
  clear hb6 hm6 nb5 hv
  replace nb6 := Lib.hid nb6
  have kB : ∀ W, Calls Try.prog 8 #[.agg #[.int .i64 0, .int .i64 1, .int .i64 6, .int .i64 0, .int .i64 1, .int .i64 8, .int .i64 0, .int .i64 0, .int .i64 0, .int .i64 0, .int .i64 0, .string ⟨#[]⟩, .string ⟨#[]⟩, .int .i64 0, .slice none 0 0, .int .i64 0, .int .i64 0, .string ⟨#[]⟩, .bool false, .slice none 0 0]] W (BPost W (rightM (smM 0 1)) (msgB (smM 0 1))) := fun W => postBytes_ok W (smM 0 1) ⟨none, 0, 0⟩ ⟨none, 0, 0⟩ (en0_mem W) (by decide) (by decide) (by decide) (fun l hl => by cases hl) (sm_nums 0 1)
  rw [show rightM (smM 0 1) = true from r01] at kB
  replace kB := Lib.hid kB
  go_wp2_with (first
    | (refine wpList_store_blk rfl 40 (.tmp 4) (.tmp 22) rfl w6.heap.size 0 _ rfl rfl hq.out (by simp) msg_size (by rfl) #[.int .i64 0, .int .i64 1, .int .i64 6, .int .i64 0, .int .i64 1, .int .i64 8, .int .i64 0, .int .i64 0, .int .i64 0, .int .i64 0, .int .i64 0, .string ⟨#[]⟩, .string ⟨#[]⟩, .int .i64 0, .slice none 0 0, .int .i64 0, .int .i64 0, .string ⟨#[]⟩, .bool false, .slice none 0 0] rfl ?_; intro w7 hq7 hm7; have hm7' := ((Mod.refl none_ w6).alloc (.cells #[.int .i64 0, .int .i64 0, .int .i64 0, .int .i64 0, .int .i64 0, .int .i64 0, .int .i64 0, .int .i64 0, .int .i64 0, .int .i64 0, .int .i64 0, .string ⟨#[]⟩, .string ⟨#[]⟩, .int .i64 0, .slice none 0 0, .int .i64 0, .int .i64 0, .string ⟨#[]⟩, .bool false, .slice none 0 0] 40)).in_new (Nat.le_refl _) hm7; have nb7 := Lib.hid (nb6.out.mod0 hm7'); replace hq7 := Lib.hid hq7; clear hm7 hm7')
    | (refine wpList_load_row rfl 40 (.tmp 4) rfl w6.heap.size rfl _ _ _ _ hq7.out Try.underlying40 rfl msg_size ?_))
  with_reducible refine (kB.out _).mono ?_
  rintro e w8 hpost
  obtain ⟨A8, c8, rfl, ho8, hf8, hm8⟩ : ∃ A c, e = .returned (.tuple #[.slice A (msgB (smM 0 1)).length c, .int .i64 0]) ∧ OwB w8 5 A (msgB (smM 0 1)).length c (msgB (smM 0 1)) ∧ Fresh w7 A ∧ Mod none_ w7 w8 := by
    rcases hpost with ⟨_, h⟩ | ⟨h, _⟩
    · exact h
    · cases h
  dsimp only
  have nb8 := Lib.hid (nb7.out.mod0 hm8)
  have hq8 := Lib.hid (hq7.out.mod hm8 (fun h => h))
  have hml : (msgB (smM 0 1)).length ≤ 1000 := by decide +kernel
  have kRd := postRead_ok w8 A8 _ c8 (msgB (smM 0 1)) ho8.rd (by omega)
  have hrd : rdMsg (msgB (smM 0 1)) = (smM 0 1, 0) := rdMsg_of r01 (sm_nums 0 1)
  rw [hrd] at kRd
  clear hrd
  generalize (msgB (smM 0 1)).length = n8 at *
  clear hpost ho8 hf8 hm8 nb7 hq7 hq nb6
  replace kRd := Lib.hid kRd
  go_wp2_with fail
  with_reducible refine kRd.out.mono ?_
  rintro e w9 ⟨m9, f9, L9, D9, he, rfl, hE9, hm9⟩
  simp only [Prod.mk.injEq] at he
  obtain ⟨hm9e, rfl⟩ := he
  have h0 : (((0 : Nat) : Int)) = 0 := rfl
  rw [h0]
  dsimp only
  have nb9 := Lib.hid (nb8.out.mod0 hm9)
  have hq9 := Lib.hid (hq8.out.mod hm9 (fun h => h))
  have hz9 := Lib.hid (Blk.new w9 40 #[.int .i64 0, .int .i64 0, .int .i64 0, .int .i64 0, .int .i64 0, .int .i64 0, .int .i64 0, .int .i64 0, .int .i64 0, .int .i64 0, .int .i64 0, .string ⟨#[]⟩, .string ⟨#[]⟩, .int .i64 0, .slice none 0 0, .int .i64 0, .int .i64 0, .string ⟨#[]⟩, .bool false, .slice none 0 0])
  have hql := Lib.hid (show w6.heap.size < w9.heap.size from hq9.out.lt)
  have hdef := Lib.hid (show decide (smM 0 1 = m9) = true from decide_eq_true hm9e)
  clear h0 hm9 nb8 hq8 kRd
  replace hm9e := Lib.hid hm9e
  replace hE9 := Lib.hid hE9
  have hL9 : Hid (L9.n ≤ 140737488355328 ∧ D9.n ≤ 140737488355328) := Lib.hid (by
    have h1 := hE9.out.od.rd.len
    have h2 := hE9.out.rd.len
    rw [← hm9e.out] at h1 h2
    exact ⟨by rw [← h1]; decide, by rw [← h2]; decide⟩)
  go_wp2_with (refine wpList_store_blk rfl 40 (.tmp 8) (.tmp 32) rfl w9.heap.size 0 _ rfl rfl hz9.out (by simp) msg_size (by rfl) #[.int .i64 m9.frm, .int .i64 m9.to, .int .i64 m9.kind, .int .i64 m9.r.i.r, .int .i64 m9.r.i.n, .int .i64 m9.r.bal, .int .i64 m9.r.st, .int .i64 m9.r.by_, .int .i64 m9.r.e.o.c, .int .i64 m9.r.e.o.s, .int .i64 m9.r.e.o.k, .string (txt m9.r.e.o.acct), .string (txt m9.r.e.o.peer), .int .i64 m9.r.e.o.sum, .slice L9.a L9.n L9.c, .int .i64 m9.r.e.o.per, .int .i64 m9.r.e.o.hold, .string (txt m9.r.e.o.note), .bool m9.r.e.none, .slice D9.a D9.n D9.c] rfl ?_; intro w10 hy10 hm10; have hm10' := ((Mod.refl none_ w9).alloc (.cells #[.int .i64 0, .int .i64 0, .int .i64 0, .int .i64 0, .int .i64 0, .int .i64 0, .int .i64 0, .int .i64 0, .int .i64 0, .int .i64 0, .int .i64 0, .string ⟨#[]⟩, .string ⟨#[]⟩, .int .i64 0, .slice none 0 0, .int .i64 0, .int .i64 0, .string ⟨#[]⟩, .bool false, .slice none 0 0] 40)).in_new (Nat.le_refl _) hm10; have nb10 := Lib.hid (nb9.out.mod0 hm10'); have hq10 := Lib.hid (hq9.out.mod hm10' (fun h => h)); have hE10 := Lib.hid (hE9.out.mod0 hm10'); replace hy10 := Lib.hid hy10; clear hm10 hm10')
  with_reducible refine (bagLen_ok w10 p A5 2 c5 _ nb10.out.st).mono ?_
  rintro e w11 ⟨rfl, rfl⟩
  have h2 : (((2 : Nat) : Int)) = 2 := rfl
  rw [h2]
  dsimp only
  clear h2
  have kS : Hid (Calls Try.prog 10 #[.agg #[.int .i64 0, .int .i64 1, .int .i64 6, .int .i64 0, .int .i64 1, .int .i64 8, .int .i64 0, .int .i64 0, .int .i64 0, .int .i64 0, .int .i64 0, .string ⟨#[]⟩, .string ⟨#[]⟩, .int .i64 0, .slice none 0 0, .int .i64 0, .int .i64 0, .string ⟨#[]⟩, .bool false, .slice none 0 0], .agg #[.int .i64 m9.frm, .int .i64 m9.to, .int .i64 m9.kind, .int .i64 m9.r.i.r, .int .i64 m9.r.i.n, .int .i64 m9.r.bal, .int .i64 m9.r.st, .int .i64 m9.r.by_, .int .i64 m9.r.e.o.c, .int .i64 m9.r.e.o.s, .int .i64 m9.r.e.o.k, .string (txt m9.r.e.o.acct), .string (txt m9.r.e.o.peer), .int .i64 m9.r.e.o.sum, .slice L9.a L9.n L9.c, .int .i64 m9.r.e.o.per, .int .i64 m9.r.e.o.hold, .string (txt m9.r.e.o.note), .bool m9.r.e.none, .slice D9.a D9.n D9.c]] w10 fun e w' => e = .returned (.bool (decide (smM 0 1 = m9))) ∧ Mod none_ w10 w') := Lib.hid (sameM_ok w10 (smM 0 1) m9 ⟨none, 0, 0⟩ ⟨none, 0, 0⟩ L9 D9 (en0_mem _) hE10.out (by decide) (by decide) hL9.out.1 hL9.out.2)
  rw [hdef.out] at kS
  go_wp2_with (first
    | (refine wpList_step (fun K hK => ?_); rw [if_pos (by rfl)]; refine wp_load_row 40 (.tmp 4) rfl w6.heap.size rfl _ _ _ _ hq10.out Try.underlying40 rfl msg_size ?_; refine hK _ _ ?_)
    | (refine wpList_step (fun K hK => ?_); rw [if_pos (by rfl)]; refine wp_load_row 40 (.tmp 8) rfl w9.heap.size rfl _ _ _ _ hy10.out Try.underlying40 rfl msg_size ?_; refine hK _ _ ?_))
  with_reducible refine kS.out.mono ?_
  rintro e w12 ⟨rfl, hm12⟩
  dsimp only
  have nb12 := Lib.hid (nb10.out.mod0 hm12)
  have hq12 := Lib.hid (hq10.out.mod hm12 (fun h => h))
  clear hm12 nb10 hq10 kS hy10 hE10
  go_wp2_with fail
  with_reducible refine (bagFor_ok w12 p A5 2 c5 _ nb12.out.st (by omega) 1).mono ?_
  rintro e w13 ⟨A13, m13, c13, rfl, ho13, hf13, hm13⟩
  have h1 : m13 = 1 := by
    have := ho13.1
    have e : places 1 0 [sm 1 2, sm 0 1] = [1] := by decide
    rw [e] at this
    simpa [ivs] using this.symm
  subst h1
  dsimp only
  have nb13 := Lib.hid (nb12.out.mod0 hm13)
  have hq13 := Lib.hid (hq12.out.mod hm13 (fun h => h))
  clear hm13 nb12 hq12 ho13 hf13
  have kR : ∀ W, Calls Try.prog 12 #[.agg #[.int .i64 0, .int .i64 1, .int .i64 6, .int .i64 0, .int .i64 1, .int .i64 8, .int .i64 0, .int .i64 0, .int .i64 0, .int .i64 0, .int .i64 0, .string ⟨#[]⟩, .string ⟨#[]⟩, .int .i64 0, .slice none 0 0, .int .i64 0, .int .i64 0, .string ⟨#[]⟩, .bool false, .slice none 0 0]] W fun e' w' => e' = .returned (.bool (rightM (smM 0 1))) ∧ Mod none_ W w' := fun W => rightM_ok W (smM 0 1) ⟨none, 0, 0⟩ ⟨none, 0, 0⟩ (en0_mem W) (by decide) (by decide) (by decide) (fun l hl => by cases hl)
  rw [show rightM (smM 0 1) = true from r01] at kR
  replace kR := Lib.hid kR
  go_wp2_with (refine wpList_step (fun K hK => ?_); rw [if_pos (by rfl)]; refine wp_load_row 40 (.tmp 4) rfl w6.heap.size rfl _ _ _ _ hq13.out Try.underlying40 rfl msg_size ?_; refine hK _ _ ?_)
  with_reducible refine (kR.out _).mono ?_
  rintro e w14 ⟨rfl, hm14⟩
  dsimp only
  replace hm14 := Lib.hid hm14
  go_wp2_with fail
  go_ret
  exact ⟨rfl, nb13.out.mod.trans hm14.out⟩
end Go.Proofs.Ytdekehhmjehicaa
/-
  The places of the messages to a replica: in order, each of one to it, all of them together (plain). No condition.
-/
namespace Go.Proofs.Ytdekehhmjehicaa
set_option linter.unusedVariables false
set_option linter.unusedSimpArgs false
open Go.RowKit
theorem places_ge (tr : Int) : ∀ (xs : List Ms) (i : Nat) (v : Int), v ∈ places tr i xs → (i : Int) ≤ v
  | [], _, _, h => by simp [places] at h
  | x :: xs, i, v, h => by
    simp only [places] at h
    split at h
    · rcases List.mem_cons.1 h with rfl | h
      · exact Int.le_refl _
      · have := places_ge tr xs (i + 1) v h; omega
    · have := places_ge tr xs (i + 1) v h; omega
theorem places_up (tr : Int) : ∀ (xs : List Ms) (i : Nat), (places tr i xs).Pairwise (· < ·)
  | [], _ => by simp [places]
  | x :: xs, i => by
    simp only [places]
    split
    · exact List.pairwise_cons.2 ⟨fun v hv => by have := places_ge tr xs (i + 1) v hv; omega, places_up tr xs (i + 1)⟩
    · exact places_up tr xs (i + 1)
theorem places_at (tr : Int) : ∀ (xs : List Ms) (i : Nat) (v : Int), v ∈ places tr i xs → ∃ k : Nat, v = ((i + k : Nat) : Int) ∧ ∃ x, xs[k]? = some x ∧ x.m.to = tr
  | [], _, _, h => by simp [places] at h
  | x :: xs, i, v, h => by
    have rec_ : v ∈ places tr (i + 1) xs → ∃ k : Nat, v = ((i + k : Nat) : Int) ∧ ∃ y, (x :: xs)[k]? = some y ∧ y.m.to = tr := fun h => by
      obtain ⟨k, h1, y, h2, h3⟩ := places_at tr xs (i + 1) v h
      exact ⟨k + 1, by rw [h1]; congr 1; omega, y, by simpa using h2, h3⟩
    simp only [places] at h
    split at h
    · rename_i hx
      rcases List.mem_cons.1 h with rfl | h
      · exact ⟨0, by simp, x, by simp, hx⟩
      · exact rec_ h
    · exact rec_ h
def cnt (xs : List Ms) : Nat → Nat
  | 0 => 0
  | k + 1 => cnt xs k + (places (k : Int) 0 xs).length
theorem cnt7 : ∀ (xs : List Ms) (i : Nat), (∀ x ∈ xs, 0 ≤ x.m.to ∧ x.m.to ≤ 6) → (places 0 i xs).length + (places 1 i xs).length + (places 2 i xs).length + (places 3 i xs).length + (places 4 i xs).length + (places 5 i xs).length + (places 6 i xs).length = xs.length
  | [], i, _ => by simp [places]
  | x :: xs, i, h => by
    have ih := cnt7 xs (i + 1) fun y hy => h y (by simp [hy])
    obtain ⟨h1, h2⟩ := h x (by simp)
    have : x.m.to = 0 ∨ x.m.to = 1 ∨ x.m.to = 2 ∨ x.m.to = 3 ∨ x.m.to = 4 ∨ x.m.to = 5 ∨ x.m.to = 6 := by omega
    rcases this with e | e | e | e | e | e | e <;> simp [places, e] <;> omega
theorem cnt_all (xs : List Ms) (h : ∀ x ∈ xs, 0 ≤ x.m.to ∧ x.m.to ≤ 6) : cnt xs 7 = xs.length := by
  have h7 := cnt7 xs 0 h
  show 0 + (places ((0 : Nat) : Int) 0 xs).length + (places ((1 : Nat) : Int) 0 xs).length + (places ((2 : Nat) : Int) 0 xs).length + (places ((3 : Nat) : Int) 0 xs).length + (places ((4 : Nat) : Int) 0 xs).length + (places ((5 : Nat) : Int) 0 xs).length + (places ((6 : Nat) : Int) 0 xs).length = xs.length
  simp only [Int.ofNat_zero, Nat.zero_add]
  exact h7
end Go.Proofs.Ytdekehhmjehicaa
/-
  PostFull's walk. No condition.
-/
namespace Go.Proofs.Ytdekehhmjehicaa
set_option linter.unusedVariables false
set_option linter.unusedSimpArgs false
open Go.RowKit
theorem umod_lit (x : Int) (m : Nat) (h0 : 0 < m) (h1 : m ≤ 1000000) : ∃ k : Nat, k < m ∧ wrap64 ((IntKind.u64.wrap x).tmod (m : Int)) = (k : Int) ∧ (IntKind.u64.wrap x).tmod (m : Int) = (k : Int) := by
  have hx := (wrap_u64_lt x).1
  generalize IntKind.u64.wrap x = q at hx
  have e : q.tmod m = q % m := Int.tmod_eq_emod_of_nonneg hx
  have l1 := Int.emod_nonneg q (b := m) (by omega)
  have l2 := Int.emod_lt_of_pos q (b := m) (by omega)
  refine ⟨(q % m).toNat, by omega, ?_, ?_⟩
  · rw [e, IntWalk.wrap64_in _ ⟨by omega, by omega⟩]
    omega
  · rw [e]; omega
/-- the i-th message -/
def smB (i : Nat) : Ms := ⟨⟨((i % 3 : Nat) : Int), 3, 6, ⟨⟨0, 1⟩, (i : Int), 0, 0, en0⟩⟩, ⟨none, 0, 0⟩, ⟨none, 0, 0⟩⟩
def smL (n : Nat) : List Ms := (List.range n).map smB
theorem smL_len (n : Nat) : (smL n).length = n := by simp [smL]
theorem smL_succ (n : Nat) : smL (n + 1) = smL n ++ [smB n] := by simp [smL, List.range_succ]
theorem smL_take (n k : Nat) : (smL n).take k = smL (min k n) := by unfold smL; rw [← List.map_take, List.take_range]
theorem smB_rt (i : Nat) (h : i ≤ 1000000) : RtM (smB i) = true := by
  have h3 : i % 3 = 0 ∨ i % 3 = 1 ∨ i % 3 = 2 := by omega
  unfold RtM rightM smB endsB kindMB rightR rightI slotB stateB
  rcases h3 with e | e | e <;> rw [e] <;> simp <;> omega
theorem smL_all (n : Nat) (h : n ≤ 1000000) : (smL n).filter RtM = smL n := by
  rw [List.filter_eq_self]
  intro x hx
  simp only [smL, List.mem_map, List.mem_range] at hx
  obtain ⟨i, hi, rfl⟩ := hx
  exact smB_rt i (by omega)
theorem smL_mem (w : World) (n : Nat) : MsM w (smL n) := by
  intro x hx
  simp only [smL, List.mem_map, List.mem_range] at hx
  obtain ⟨i, hi, rfl⟩ := hx
  exact en0_mem w
theorem smL_ok (n : Nat) : ∀ x ∈ smL n, MsOk x := by
  intro x hx
  simp only [smL, List.mem_map, List.mem_range] at hx
  obtain ⟨i, hi, rfl⟩ := hx
  exact ⟨by simp [smB], by simp [smB], (show (Lit.int .i64 en0.o.k).wf = true by decide), fun l hl => by cases hl⟩
theorem smL_at (n i : Nat) (ex : List Ms) (h : i < n) : (smL n ++ ex)[i]? = some (smB i) := by
  rw [List.getElem?_append_left (by rw [smL_len]; exact h)]
  simp [smL, h]
set_option maxRecDepth 100000 in
theorem bagTake_nil (w : World) : Calls Try.prog 17 #[.pointer none, .int .i64 0] w fun e w' => e = .returned (.tuple #[.agg #[.int .i64 0, .int .i64 0, .int .i64 0, .int .i64 0, .int .i64 0, .int .i64 0, .int .i64 0, .int .i64 0, .int .i64 0, .int .i64 0, .int .i64 0, .string ⟨#[]⟩, .string ⟨#[]⟩, .int .i64 0, .slice none 0 0, .int .i64 0, .int .i64 0, .string ⟨#[]⟩, .bool false, .slice none 0 0], .bool false]) ∧ Mod none_ w w' := by
  have kL := Lib.hid (bagLook_nil (w.alloc (.cells #[.int .i64 0, .int .i64 0, .int .i64 0, .int .i64 0, .int .i64 0, .int .i64 0, .int .i64 0, .int .i64 0, .int .i64 0, .int .i64 0, .int .i64 0, .string ⟨#[]⟩, .string ⟨#[]⟩, .int .i64 0, .slice none 0 0, .int .i64 0, .int .i64 0, .string ⟨#[]⟩, .bool false, .slice none 0 0] 40)) 0)
  have z0 : ((0 : Nat) : Int) = 0 := rfl
  rw [z0] at kL
  clear z0
  have hb0 := Lib.hid (Blk.new w 40 #[.int .i64 0, .int .i64 0, .int .i64 0, .int .i64 0, .int .i64 0, .int .i64 0, .int .i64 0, .int .i64 0, .int .i64 0, .int .i64 0, .int .i64 0, .string ⟨#[]⟩, .string ⟨#[]⟩, .int .i64 0, .slice none 0 0, .int .i64 0, .int .i64 0, .string ⟨#[]⟩, .bool false, .slice none 0 0])
  go_enter Try.func17, Try.ntmps17
  go_wp2_with fail
  with_reducible refine kL.out.mono ?_
  rintro e w1 ⟨rfl, hm1⟩
  dsimp only
  have hb1 := Lib.hid (hb0.out.mod hm1 (fun h => h))
  have hM1 := Lib.hid (((Mod.refl none_ w).alloc (.cells #[.int .i64 0, .int .i64 0, .int .i64 0, .int .i64 0, .int .i64 0, .int .i64 0, .int .i64 0, .int .i64 0, .int .i64 0, .int .i64 0, .int .i64 0, .string ⟨#[]⟩, .string ⟨#[]⟩, .int .i64 0, .slice none 0 0, .int .i64 0, .int .i64 0, .string ⟨#[]⟩, .bool false, .slice none 0 0] 40)).trans hm1)
  have hq := Lib.hid (Blk.new w1 40 #[.int .i64 0, .int .i64 0, .int .i64 0, .int .i64 0, .int .i64 0, .int .i64 0, .int .i64 0, .int .i64 0, .int .i64 0, .int .i64 0, .int .i64 0, .string ⟨#[]⟩, .string ⟨#[]⟩, .int .i64 0, .slice none 0 0, .int .i64 0, .int .i64 0, .string ⟨#[]⟩, .bool false, .slice none 0 0])
  have hsz : w.heap.size < w1.heap.size := hb1.out.lt
  clear hm1 kL
  go_wp2_with (first
    | (refine wpList_store_blk rfl 40 (.tmp 6) (.tmp 12) rfl w1.heap.size 0 _ rfl rfl hq.out (by simp) msg_size (by rfl) #[.int .i64 0, .int .i64 0, .int .i64 0, .int .i64 0, .int .i64 0, .int .i64 0, .int .i64 0, .int .i64 0, .int .i64 0, .int .i64 0, .int .i64 0, .string ⟨#[]⟩, .string ⟨#[]⟩, .int .i64 0, .slice none 0 0, .int .i64 0, .int .i64 0, .string ⟨#[]⟩, .bool false, .slice none 0 0] rfl ?_; intro w2 hq2 hm2; have hm2' := ((Mod.refl none_ w1).alloc (.cells #[.int .i64 0, .int .i64 0, .int .i64 0, .int .i64 0, .int .i64 0, .int .i64 0, .int .i64 0, .int .i64 0, .int .i64 0, .int .i64 0, .int .i64 0, .string ⟨#[]⟩, .string ⟨#[]⟩, .int .i64 0, .slice none 0 0, .int .i64 0, .int .i64 0, .string ⟨#[]⟩, .bool false, .slice none 0 0] 40)).in_new (Nat.le_refl _) hm2; have hb2 := Lib.hid (hb1.out.mod hm2' (fun h => h)); have hM2 := Lib.hid (hM1.out.trans hm2'); replace hq2 := Lib.hid hq2; clear hm2 hm2')
    | (refine wpList_load_row rfl 40 (.tmp 6) rfl w1.heap.size rfl _ _ _ _ hq2.out Try.underlying40 rfl msg_size ?_)
    | (refine wpList_store_blk rfl 40 (.tmp 4) (.tmp 26) rfl w.heap.size 0 _ rfl rfl hb2.out (by simp) msg_size (by rfl) #[.int .i64 0, .int .i64 0, .int .i64 0, .int .i64 0, .int .i64 0, .int .i64 0, .int .i64 0, .int .i64 0, .int .i64 0, .int .i64 0, .int .i64 0, .string ⟨#[]⟩, .string ⟨#[]⟩, .int .i64 0, .slice none 0 0, .int .i64 0, .int .i64 0, .string ⟨#[]⟩, .bool false, .slice none 0 0] rfl ?_; intro w5 hb5 hm5; replace hb5 := Lib.hid hb5; replace hm5 := Lib.hid hm5))
  refine ret_row_tmp rfl w.heap.size rfl hb5.out Try.underlying40 rfl msg_size (.bool false) rfl rfl ?_
  exact ⟨rfl, hM2.out.in_new (Nat.le_refl _) hm5.out⟩
theorem lookR_nat (xs : List Ms) (i : Nat) : lookR xs (i : Int) = xs[i]? := by unfold lookR; rw [if_pos (by omega)]; simp
theorem twice_yes {xs : List Ms} {i n : Nat} (h : n < 400) (hi : i < xs.length) : twiceB xs (i : Int) n = true ∧ ∃ x, twiceL xs (i : Int) n = xs ++ [x] := by
  unfold twiceB twiceL
  rw [lookR_nat, List.getElem?_eq_getElem hi]
  exact ⟨decide_eq_true h, _, by dsimp only; rw [if_pos h]⟩
theorem twice_no {xs : List Ms} {i n : Nat} (h : ¬ n < 400 ∨ ¬ i < xs.length) : twiceB xs (i : Int) n = false ∧ twiceL xs (i : Int) n = xs := by
  unfold twiceB twiceL
  rw [lookR_nat]
  cases hx : xs[i]? with
  | none => exact ⟨rfl, rfl⟩
  | some x =>
    have hi : i < xs.length := (List.getElem?_eq_some_iff.1 hx).1
    have hn : ¬ n < 400 := h.resolve_right (fun hh => hh hi)
    exact ⟨decide_eq_false hn, by dsimp only; rw [if_neg hn]⟩
theorem lookR_drop' {own : List Ms} {i : Nat} : lookR (own.drop i) 0 = own[i]? := by
  unfold lookR; rw [if_pos (by omega)]; simp
theorem takeL_drop' {own : List Ms} {i : Nat} : takeL (own.drop i) 0 = own.drop (i + 1) := by
  by_cases hi : i < own.length
  · rw [List.drop_eq_getElem_cons hi]; rfl
  · rw [List.drop_of_length_le (by omega), List.drop_of_length_le (by omega)]; rfl
set_option maxRecDepth 100000 in
set_option maxHeartbeats 8000000 in
theorem postFull_walk (w : World) (n0 tw0 tk0 : Int) :
    Calls Try.prog 4 #[.int .i64 n0, .int .i64 tw0, .int .i64 tk0] w fun e w' => e = .returned (.bool true) ∧ Mod none_ w w' := by
  obtain ⟨N, hN, u1, u2⟩ : ∃ N : Nat, N < 500 ∧ wrap64 ((IntKind.u64.wrap n0).tmod 500) = (N : Int) ∧ (IntKind.u64.wrap n0).tmod 500 = (N : Int) := umod_lit n0 500 (by omega) (by omega)
  obtain ⟨T, hT, v1, v2⟩ : ∃ N : Nat, N < 30 ∧ wrap64 ((IntKind.u64.wrap tw0).tmod 30) = (N : Int) ∧ (IntKind.u64.wrap tw0).tmod 30 = (N : Int) := umod_lit tw0 30 (by omega) (by omega)
  obtain ⟨K, hK, x1, x2⟩ : ∃ N : Nat, N < 500 ∧ wrap64 ((IntKind.u64.wrap tk0).tmod 500) = (N : Int) ∧ (IntKind.u64.wrap tk0).tmod 500 = (N : Int) := umod_lit tk0 500 (by omega) (by omega)
  have kL := Lib.hid (lives_ok w)
  go_enter Try.func4, Try.ntmps4
  go_wp2_with fail
  refine kL.out.mono ?_
  rintro e w1 ⟨rfl, hm1⟩
  dsimp only
  replace hm1 := Lib.hid hm1
  go_wp2_with fail
  with_reducible refine (bagNew_ok w1).mono ?_
  rintro e w2 ⟨rfl, hb2, hm2⟩
  dsimp only
  have nb2 := Lib.hid (show NewBag w1 w2 w1.heap.size none 0 0 [] from ⟨hb2, hm2, Nat.le_refl _, fun k hk => by obtain ⟨a, ha, _⟩ := hk; cases ha⟩)
  clear hb2 hm2
  generalize hp : w1.heap.size = p at *
  replace hp := Lib.hid hp
  clear u1 u2 v1 v2 x1 x2
  go_wp2_with fail
  go_loopw [8, 9] (fun v y wr => ∃ j : Nat, y = .int .i64 j ∧ j ≤ N ∧ ∃ B d, v = .slice B j d ∧ OwM wr B j d (smL j) ∧ Fresh w2 B ∧ Mod none_ w2 wr) (fun _ y _ => N - (intOf y).toNat)
  case atStart => exact ⟨0, rfl, by omega, none, 0, rfl, Ow.nil _ _ _, (fun a ha => by cases ha), Mod.refl _ _⟩
  case round =>
    obtain ⟨j, rfl, hj, B, d, rfl, ho, hf, hm⟩ := hrel
    by_cases hlt : j < N
    · replace ho := Lib.hid ho
      replace hf := Lib.hid hf
      replace hm := Lib.hid hm
      go_wp2_with fail
      with_reducible refine (small_ok _ ((j : Int) % 3) 3).mono ?_
      rintro e w3 ⟨rfl, hm3⟩
      dsimp only
      have hz := Lib.hid (Blk.new w3 40 #[.int .i64 0, .int .i64 0, .int .i64 0, .int .i64 0, .int .i64 0, .int .i64 0, .int .i64 0, .int .i64 0, .int .i64 0, .int .i64 0, .int .i64 0, .string ⟨#[]⟩, .string ⟨#[]⟩, .int .i64 0, .slice none 0 0, .int .i64 0, .int .i64 0, .string ⟨#[]⟩, .bool false, .slice none 0 0])
      have hM3 := Lib.hid (hm.out.trans hm3)
      have ho3 := Lib.hid (ho.out.mod0 hm3)
      clear hm3
      go_upto_region 10 with (refine wpList_store_blk rfl 40 (.tmp 10) (.tmp 42) rfl w3.heap.size 0 _ rfl rfl hz.out (by simp) msg_size (by rfl) #[.int .i64 ((j : Int) % 3), .int .i64 3, .int .i64 6, .int .i64 0, .int .i64 1, .int .i64 8, .int .i64 0, .int .i64 0, .int .i64 0, .int .i64 0, .int .i64 0, .string ⟨#[]⟩, .string ⟨#[]⟩, .int .i64 0, .slice none 0 0, .int .i64 0, .int .i64 0, .string ⟨#[]⟩, .bool false, .slice none 0 0] rfl ?_; intro w4 hb4 hm4)
      have hm4' := ((Mod.refl none_ w3).alloc (.cells #[.int .i64 0, .int .i64 0, .int .i64 0, .int .i64 0, .int .i64 0, .int .i64 0, .int .i64 0, .int .i64 0, .int .i64 0, .int .i64 0, .int .i64 0, .string ⟨#[]⟩, .string ⟨#[]⟩, .int .i64 0, .slice none 0 0, .int .i64 0, .int .i64 0, .string ⟨#[]⟩, .bool false, .slice none 0 0] 40)).in_new (Nat.le_refl _) hm4
      have hM4 := hM3.out.trans hm4'
      have hb5 : Blk (w4.setCell ⟨w3.heap.size, 5, none⟩ (.int .i64 (j : Int))) w3.heap.size 40 #[.int .i64 ((j : Int) % 3), .int .i64 3, .int .i64 6, .int .i64 0, .int .i64 1, .int .i64 (j : Int), .int .i64 0, .int .i64 0, .int .i64 0, .int .i64 0, .int .i64 0, .string ⟨#[]⟩, .string ⟨#[]⟩, .int .i64 0, .slice none 0 0, .int .i64 0, .int .i64 0, .string ⟨#[]⟩, .bool false, .slice none 0 0] := hb4.set_ 5 _
      have c5 : w4.cell? ⟨w3.heap.size, 5, none⟩ = some (.int .i64 8) := hb4.cell_ rfl
      have f5 : w4.frozen? ⟨w3.heap.size, 5, none⟩ = false := hb4.frozen 5
      have hlt3 : w3.heap.size < w4.heap.size := hb4.lt
      have hM5 := hM4.setCell (p := ⟨w3.heap.size, 5, none⟩) (.inr (by have := hM3.out.size; exact this)) (.int .i64 (j : Int))
      have ho5 : OwM (w4.setCell ⟨w3.heap.size, 5, none⟩ (.int .i64 (j : Int))) B j d (smL j) := (ho3.out.mod0 hm4').mod ((Mod.refl (only w3.heap.size) w4).set_only 5 _) (fun k hk hh => by have : k = w3.heap.size := hh; have := ho3.out.lt k hk; omega)
      obtain ⟨wx, hwx⟩ : ∃ wx, wx = w4.setCell ⟨w3.heap.size, 5, none⟩ (.int .i64 (j : Int)) := ⟨_, rfl⟩
      have hrow : RdM (wx.alloc (.cells #[.int .i64 ((j : Int) % 3), .int .i64 3, .int .i64 6, .int .i64 0, .int .i64 1, .int .i64 (j : Int), .int .i64 0, .int .i64 0, .int .i64 0, .int .i64 0, .int .i64 0, .string ⟨#[]⟩, .string ⟨#[]⟩, .int .i64 0, .slice none 0 0, .int .i64 0, .int .i64 0, .string ⟨#[]⟩, .bool false, .slice none 0 0] 40)) (some ⟨wx.heap.size, 0, none⟩) 1 [smB j] := by
        have h := rdM_one wx (smB j)
        unfold smB at h ⊢
        rw [show ((j % 3 : Nat) : Int) = (j : Int) % 3 by omega] at h ⊢
        exact h
      rw [← hwx] at hb5 hM5 ho5
      have ho6 := Lib.hid (ho5.mod0 ((Mod.refl none_ wx).alloc (.cells #[.int .i64 ((j : Int) % 3), .int .i64 3, .int .i64 6, .int .i64 0, .int .i64 1, .int .i64 (j : Int), .int .i64 0, .int .i64 0, .int .i64 0, .int .i64 0, .int .i64 0, .string ⟨#[]⟩, .string ⟨#[]⟩, .int .i64 0, .slice none 0 0, .int .i64 0, .int .i64 0, .string ⟨#[]⟩, .bool false, .slice none 0 0] 40)))
      have hM6 := Lib.hid (hM5.alloc (.cells #[.int .i64 ((j : Int) % 3), .int .i64 3, .int .i64 6, .int .i64 0, .int .i64 1, .int .i64 (j : Int), .int .i64 0, .int .i64 0, .int .i64 0, .int .i64 0, .int .i64 0, .string ⟨#[]⟩, .string ⟨#[]⟩, .int .i64 0, .slice none 0 0, .int .i64 0, .int .i64 0, .string ⟨#[]⟩, .bool false, .slice none 0 0] 40))
      clear hM4 hm4' hm4 ho5 hM5 hb4
      replace hwx := Lib.hid hwx
      replace hb5 := Lib.hid hb5
      replace hrow := Lib.hid hrow
      go_upto_region 11 with fail
      rw [← hwx.out]
      go_wp2_with (first
        | (refine wpList_load_row rfl 40 (.tmp 10) rfl w3.heap.size rfl _ _ _ _ hb5.out Try.underlying40 rfl msg_size ?_)
        | (at_builtin; go_loud (refine appM rfl (.tmp 45) (.tmp 47) rfl rfl ho6.out rfl hrow.out (by omega) ?_; intro A7 c7 w7 ho7 hm7 hA7; replace ho7 := Lib.hid ho7; replace hm7 := Lib.hid hm7; replace hA7 := Lib.hid hA7)))
      go_roundw
      case rel => exact ⟨j + 1, by go_num, by omega, A7, c7, rfl, by rw [smL_succ]; exact ho7.out, Fresh.app hf.out hM6.out.size hA7.out, hM6.out.app hf.out hm7.out⟩
      case measure => simp [intOf]; omega
    · obtain rfl : j = N := by omega
      have hB := Lib.hid (Ow.rd ho)
      have nb3 := Lib.hid (nb2.out.mod0 hm)
      obtain ⟨wf, rfl⟩ : ∃ wf, wf = wr := ⟨_, rfl⟩
      clear ho hf hm
      have kP := bagPut_ok wf p none 0 0 [] nb3.out.st (by omega) B j d (smL j) hB.out (smL_mem _ j) (smL_ok j) (by omega)
      rw [smL_all j (by omega)] at kP
      unfold PutPost at kP
      have hput : putN (smL j).length 0 = min j 400 := by rw [smL_len]; unfold putN; omega
      rw [hput] at kP
      obtain ⟨q, hq⟩ : ∃ q, q = min j 400 := ⟨_, rfl⟩
      rw [← hq] at kP
      clear hput
      replace kP := Lib.hid kP
      go_wp2_with fail
      with_reducible refine kP.out.mono ?_
      rintro e w4 ⟨A4, c4, rfl, hb4, hm4, hA4⟩
      dsimp only
      have nb4 : NewBag w1 w4 p A4 (0 + q) c4 ([] ++ (smL j).take q) := nb3.out.step hb4 hm4 hA4
      rw [Nat.zero_add, List.nil_append, smL_take, show min q j = q by omega] at nb4
      clear hb4 hm4 hA4 kP nb3 hB nb2
      have hq0 : min (j : Int) 400 = (q : Int) := by omega
      have hq1 : ((j : Int) - (q : Int) != (j : Int) - (q : Int)) = false := by simp
      replace nb4 := Lib.hid nb4
      replace hq := Lib.hid hq
      go_wp2_with fail
      go_loopw [12, 13] (fun v y W => ∃ (i q' : Nat) (A : Option Addr) (c : Nat) (ex : List Ms), y = .int .i64 i ∧ i ≤ T ∧ v = .int .i64 q' ∧ q' ≤ 400 ∧ NewBag w1 W p A q' c (smL q ++ ex)) (fun _ y _ => T - (intOf y).toNat)
      case atStart => exact ⟨0, q, A4, c4, [], rfl, by omega, rfl, by have := hq.out; omega, by rw [List.append_nil]; exact nb4.out⟩
      case round =>
        obtain ⟨i, q', A, c, ex, rfl, hi, rfl, hq', nb⟩ := hrel
        by_cases hi2 : i < T
        · have hlen := nb.st.len
          have kT := bagTwice_ok _ p A q' c (smL q ++ ex) nb.st hq' (i : Int)
          replace nb := Lib.hid nb
          by_cases hc : q' < 400
          · have hd1 : decide ((q' : Int) < 400) = true := decide_eq_true (by omega)
            by_cases hc2 : i < q'
            · have hd2 : decide ((i : Int) < (q' : Int)) = true := decide_eq_true (by omega)
              obtain ⟨e1, x, e2⟩ := twice_yes (xs := smL q ++ ex) (i := i) hc (by rw [hlen]; exact hc2)
              rw [e1, e2] at kT
              clear e1 e2
              replace kT := Lib.hid kT
              replace hlen := Lib.hid hlen
              go_wp2_with fail
              with_reducible refine kT.out.mono ?_
              rintro e w5 ⟨A5, n5, c5, rfl, hb5, hn5, hm5, hA5⟩
              dsimp only
              have nb5 := nb.out.step hb5 hm5 hA5
              have hn5' : n5 = q' + 1 := by have h1 := nb5.st.len; rw [List.length_append, hlen.out] at h1; simpa using h1.symm
              subst hn5'
              rw [List.append_assoc] at nb5
              clear hb5 hm5 hA5 kT
              replace nb5 := Lib.hid nb5
              go_wp2_with fail
              go_roundw
              case rel => exact ⟨i + 1, q' + 1, A5, c5, ex ++ [x], by go_num, by omega, by go_num, hn5, nb5.out⟩
              case measure => simp [intOf]; omega
            · have hd2 : decide ((i : Int) < (q' : Int)) = false := decide_eq_false (by omega)
              obtain ⟨e1, e2⟩ := twice_no (xs := smL q ++ ex) (i := i) (n := q') (.inr (by rw [hlen]; exact hc2))
              rw [e1, e2] at kT
              clear e1 e2
              replace kT := Lib.hid kT
              replace hlen := Lib.hid hlen
              go_wp2_with fail
              with_reducible refine kT.out.mono ?_
              rintro e w5 ⟨A5, n5, c5, rfl, hb5, hn5, hm5, hA5⟩
              dsimp only
              have nb5 := nb.out.step hb5 hm5 hA5
              have hn5' : n5 = q' := by have h1 := nb5.st.len; rw [hlen.out] at h1; exact h1.symm
              subst hn5'
              clear hb5 hm5 hA5 kT
              replace nb5 := Lib.hid nb5
              go_wp2_with fail
              go_roundw
              case rel => exact ⟨i + 1, n5, A5, c5, ex, by go_num, by omega, rfl, hn5, nb5.out⟩
              case measure => simp [intOf]; omega
          · have hd1 : decide ((q' : Int) < 400) = false := decide_eq_false (by omega)
            obtain ⟨e1, e2⟩ := twice_no (xs := smL q ++ ex) (i := i) (n := q') (.inl hc)
            rw [e1, e2] at kT
            clear e1 e2
            replace kT := Lib.hid kT
            replace hlen := Lib.hid hlen
            go_wp2_with fail
            with_reducible refine kT.out.mono ?_
            rintro e w5 ⟨A5, n5, c5, rfl, hb5, hn5, hm5, hA5⟩
            dsimp only
            have nb5 := nb.out.step hb5 hm5 hA5
            have hn5' : n5 = q' := by have h1 := nb5.st.len; rw [hlen.out] at h1; exact h1.symm
            subst hn5'
            clear hb5 hm5 hA5 kT
            replace nb5 := Lib.hid nb5
            go_wp2_with fail
            go_roundw
            case rel => exact ⟨i + 1, n5, A5, c5, ex, by go_num, by omega, rfl, hn5, nb5.out⟩
            case measure => simp [intOf]; omega
        · have nb7 := Lib.hid nb
          have hxl : (smL q ++ ex).length = q' := nb.st.len
          have hat : ∀ k, k < q → (smL q ++ ex)[k]? = some (smB k) := fun k hk => smL_at q k ex hk
          obtain ⟨xs0, hxs0⟩ : ∃ xs0, xs0 = smL q ++ ex := ⟨_, rfl⟩
          rw [← hxs0] at nb7 hxl hat
          clear nb nb4
          replace hxl := Lib.hid hxl
          replace hat := Lib.hid hat
          replace hxs0 := Lib.hid hxs0
          have hd0 : decide ((i : Int) < (T : Int)) = false := decide_eq_false (by omega)
          go_wp2_with fail
          go_loopw [12, 14] (fun v y W => ∃ (k n' : Nat), y = .int .i64 k ∧ k ≤ K ∧ v = .int .i64 n' ∧ NewBag w1 W p A n' c (xs0.drop k)) (fun _ y _ => K - (intOf y).toNat)
          case atStart => exact ⟨0, q', rfl, by omega, rfl, nb7.out⟩
          case round =>
            obtain ⟨k, n', rfl, hk, rfl, nb⟩ := hrel
            have hn' := nb.st.len
            rw [List.length_drop, hxl.out] at hn'
            by_cases hk2 : k < K
            · have kT := bagTake_ok _ p A n' c (xs0.drop k) nb.st (by omega) 0
              rw [takeL_drop'] at kT
              replace kT := Lib.hid kT
              replace nb := Lib.hid nb
              go_wp2_with fail
              with_reducible refine kT.out.mono ?_
              rintro e w5 ⟨v5, n5, rfl, hv5, hb5, hn5, hm5⟩
              have nb5 : Hid (NewBag _ w5 p A n5 c (xs0.drop (k + 1))) := Lib.hid (nb.out.step hb5 hm5 (fun k hk => .inl hk))
              have hn5' := nb5.out.st.len
              rw [List.length_drop, hxl.out] at hn5'
              have hz := Lib.hid (Blk.new w5 40 #[.int .i64 0, .int .i64 0, .int .i64 0, .int .i64 0, .int .i64 0, .int .i64 0, .int .i64 0, .int .i64 0, .int .i64 0, .int .i64 0, .int .i64 0, .string ⟨#[]⟩, .string ⟨#[]⟩, .int .i64 0, .slice none 0 0, .int .i64 0, .int .i64 0, .string ⟨#[]⟩, .bool false, .slice none 0 0])
              clear hb5 hn5 hm5 kT
              rcases hv5 with ⟨x, hx, rfl⟩ | ⟨hx, rfl⟩
              · rw [lookR_drop'] at hx
                have hkl : k < q' := by rw [← hxl.out]; exact (List.getElem?_eq_some_iff.1 hx).1
                dsimp only
                have hd1 : decide (0 < n') = true := decide_eq_true (by omega)
                have hd1' : decide (0 < (n' : Int)) = true := decide_eq_true (by omega)
                have hb1 : 1 ≤ n' := by omega
                have hb2 : n' ≤ 400 := by omega
                have hx2 : k < q → x.m.r.bal = (k : Int) := fun hkq => by
                  have := hat.out k hkq
                  rw [hx] at this
                  injection this with this
                  rw [this]; rfl
                replace hx := Lib.hid hx
                replace hx2 := Lib.hid hx2
                replace hn' := Lib.hid hn'
                replace hn5' := Lib.hid hn5'
                go_upto_region 27 with (refine wpList_store_blk rfl 40 (.tmp 15) (.tmp 92) rfl w5.heap.size 0 _ rfl rfl hz.out (by simp) msg_size (by rfl) #[.int .i64 x.m.frm, .int .i64 x.m.to, .int .i64 x.m.kind, .int .i64 x.m.r.i.r, .int .i64 x.m.r.i.n, .int .i64 x.m.r.bal, .int .i64 x.m.r.st, .int .i64 x.m.r.by_, .int .i64 x.m.r.e.o.c, .int .i64 x.m.r.e.o.s, .int .i64 x.m.r.e.o.k, .string (txt x.m.r.e.o.acct), .string (txt x.m.r.e.o.peer), .int .i64 x.m.r.e.o.sum, .slice x.L.a x.L.n x.L.c, .int .i64 x.m.r.e.o.per, .int .i64 x.m.r.e.o.hold, .string (txt x.m.r.e.o.note), .bool x.m.r.e.none, .slice x.D.a x.D.n x.D.c] rfl ?_; intro w8 hb8 hm8)
                have hm8' := ((Mod.refl none_ w5).alloc (.cells #[.int .i64 0, .int .i64 0, .int .i64 0, .int .i64 0, .int .i64 0, .int .i64 0, .int .i64 0, .int .i64 0, .int .i64 0, .int .i64 0, .int .i64 0, .string ⟨#[]⟩, .string ⟨#[]⟩, .int .i64 0, .slice none 0 0, .int .i64 0, .int .i64 0, .string ⟨#[]⟩, .bool false, .slice none 0 0] 40)).in_new (Nat.le_refl _) hm8
                have nb8 := Lib.hid (nb5.out.mod0 hm8')
                by_cases hkj : k < j
                · have hd2 : decide ((k : Int) < (j : Int)) = true := decide_eq_true (by omega)
                  by_cases hk4 : k < 400
                  · have hd3 : decide ((k : Int) < 400) = true := decide_eq_true (by omega)
                    have c5 : w8.cell? ⟨w5.heap.size, 5, none⟩ = some (.int .i64 (k : Int)) := (hx2.out (by have := hq.out; omega)) ▸ hb8.cell_ rfl
                    have hk0 : ((k : Int) != (k : Int)) = false := by simp
                    clear hb8 hm8 hm8' nb5 hz
                    go_wp2_with fail
                    go_roundw
                    case rel => exact ⟨k + 1, n5, by go_num, by omega, by have h1 := hn'.out; have h2 := hn5'.out; go_num, nb8.out⟩
                    case measure => simp [intOf]; omega
                  · have hd3 : decide ((k : Int) < 400) = false := decide_eq_false (by omega)
                    clear hb8 hm8 hm8' nb5 hz
                    go_wp2_with fail
                    go_roundw
                    case rel => exact ⟨k + 1, n5, by go_num, by omega, by have h1 := hn'.out; have h2 := hn5'.out; go_num, nb8.out⟩
                    case measure => simp [intOf]; omega
                · have hd2 : decide ((k : Int) < (j : Int)) = false := decide_eq_false (by omega)
                  clear hb8 hm8 hm8' nb5 hz
                  go_wp2_with fail
                  go_roundw
                  case rel => exact ⟨k + 1, n5, by go_num, by omega, by have h1 := hn'.out; have h2 := hn5'.out; go_num, nb8.out⟩
                  case measure => simp [intOf]; omega
              · rw [lookR_drop'] at hx
                have hkl : q' ≤ k := by rw [← hxl.out]; exact List.getElem?_eq_none_iff.1 hx
                dsimp only
                obtain rfl : n' = 0 := by omega
                obtain rfl : n5 = 0 := by omega
                have hj4 : ¬ (k < j ∧ k < 400) ∨ k < j ∧ k < 400 := Classical.em _ |>.symm
                replace hx := Lib.hid hx
                replace hn' := Lib.hid hn'
                replace hn5' := Lib.hid hn5'
                go_upto_region 27 with (refine wpList_store_blk rfl 40 (.tmp 15) (.tmp 92) rfl w5.heap.size 0 _ rfl rfl hz.out (by simp) msg_size (by rfl) #[.int .i64 0, .int .i64 0, .int .i64 0, .int .i64 0, .int .i64 0, .int .i64 0, .int .i64 0, .int .i64 0, .int .i64 0, .int .i64 0, .int .i64 0, .string ⟨#[]⟩, .string ⟨#[]⟩, .int .i64 0, .slice none 0 0, .int .i64 0, .int .i64 0, .string ⟨#[]⟩, .bool false, .slice none 0 0] rfl ?_; intro w8 hb8 hm8)
                have hm8' := ((Mod.refl none_ w5).alloc (.cells #[.int .i64 0, .int .i64 0, .int .i64 0, .int .i64 0, .int .i64 0, .int .i64 0, .int .i64 0, .int .i64 0, .int .i64 0, .int .i64 0, .int .i64 0, .string ⟨#[]⟩, .string ⟨#[]⟩, .int .i64 0, .slice none 0 0, .int .i64 0, .int .i64 0, .string ⟨#[]⟩, .bool false, .slice none 0 0] 40)).in_new (Nat.le_refl _) hm8
                have nb8 := Lib.hid (nb5.out.mod0 hm8')
                clear hb8 hm8 hm8' nb5 hz hj4
                by_cases hkj : k < j
                · have hd2 : decide ((k : Int) < (j : Int)) = true := decide_eq_true (by omega)
                  go_wp2_with fail
                  go_roundw
                  case rel => exact ⟨k + 1, 0, by go_num, by omega, rfl, nb8.out⟩
                  case measure => simp [intOf]; omega
                · have hd2 : decide ((k : Int) < (j : Int)) = false := decide_eq_false (by omega)
                  go_wp2_with fail
                  go_roundw
                  case rel => exact ⟨k + 1, 0, by go_num, by omega, rfl, nb8.out⟩
                  case measure => simp [intOf]; omega
            · replace nb := Lib.hid nb
              clear nb7
              go_wp2_with fail
              with_reducible refine (bagTake_nil _).mono ?_
              rintro e w5 ⟨rfl, hm5⟩
              dsimp only
              have nb5 := Lib.hid (nb.out.mod0 hm5)
              have hz := Lib.hid (Blk.new w5 40 #[.int .i64 0, .int .i64 0, .int .i64 0, .int .i64 0, .int .i64 0, .int .i64 0, .int .i64 0, .int .i64 0, .int .i64 0, .int .i64 0, .int .i64 0, .string ⟨#[]⟩, .string ⟨#[]⟩, .int .i64 0, .slice none 0 0, .int .i64 0, .int .i64 0, .string ⟨#[]⟩, .bool false, .slice none 0 0])
              clear hm5
              go_upto_region 33 with (refine wpList_store_blk rfl 40 (.tmp 18) (.tmp 128) rfl w5.heap.size 0 _ rfl rfl hz.out (by simp) msg_size (by rfl) #[.int .i64 0, .int .i64 0, .int .i64 0, .int .i64 0, .int .i64 0, .int .i64 0, .int .i64 0, .int .i64 0, .int .i64 0, .int .i64 0, .int .i64 0, .string ⟨#[]⟩, .string ⟨#[]⟩, .int .i64 0, .slice none 0 0, .int .i64 0, .int .i64 0, .string ⟨#[]⟩, .bool false, .slice none 0 0] rfl ?_; intro w8 hb8 hm8)
              have hm8' := ((Mod.refl none_ w5).alloc (.cells #[.int .i64 0, .int .i64 0, .int .i64 0, .int .i64 0, .int .i64 0, .int .i64 0, .int .i64 0, .int .i64 0, .int .i64 0, .int .i64 0, .int .i64 0, .string ⟨#[]⟩, .string ⟨#[]⟩, .int .i64 0, .slice none 0 0, .int .i64 0, .int .i64 0, .string ⟨#[]⟩, .bool false, .slice none 0 0] 40)).in_new (Nat.le_refl _) hm8
              have nb8 := Lib.hid (nb5.out.mod0 hm8')
              clear hb8 hm8 hm8' nb5 hz
              go_wp2_with fail
              with_reducible refine (bagLen_ok _ p A n' c _ nb8.out.st).mono ?_
              rintro e w9 ⟨rfl, rfl⟩
              dsimp only
              go_wp2_with fail
              with_reducible refine (bagPut_nil _ _ _ _).mono ?_
              rintro e w9 ⟨rfl, rfl⟩
              dsimp only
              go_wp2_with fail
              have z0 : ((0 : Nat) : Int) = 0 := rfl
              have kT := bagTwice_nil w8 0
              rw [z0] at kT
              clear z0
              with_reducible refine kT.mono ?_
              rintro e w9 ⟨rfl, hm9⟩
              dsimp only
              have nb9 := Lib.hid (nb8.out.mod0 hm9)
              clear hm9 kT nb8
              go_wp2_with fail
              with_reducible refine (bagLen_nil _).mono ?_
              rintro e w10 ⟨rfl, rfl⟩
              dsimp only
              go_wp2_with fail
              with_reducible refine (bagAll_nil _).mono ?_
              rintro e w10 ⟨rfl, rfl⟩
              dsimp only
              go_wp2_with fail
              with_reducible refine (bagFor_nil _ 1).mono ?_
              rintro e w10 ⟨rfl, rfl⟩
              dsimp only
              go_wp2_with fail
              go_ret
              exact ⟨rfl, hm1.out.trans nb9.out.mod⟩
end Go.Proofs.Ytdekehhmjehicaa
/-
  Opening an argument's reading: what lies in memory where a slice of numbers, of bytes, of structs came in. No condition.
-/
namespace Go.Proofs.Ytdekehhmjehicaa
set_option linter.unusedVariables false
set_option linter.unusedSimpArgs false
open Go.RowKit Go.ChangeShapes Go.WideShapes Go.Deep

theorem list_choice {α : Type} (p : Nat → α → Prop) : ∀ n, (∀ i, i < n → ∃ e, p i e) → ∃ es : List α, es.length = n ∧ ∀ i e, es[i]? = some e → p i e := by
  intro n
  induction n with
  | zero => intro _; exact ⟨[], rfl, fun i e h => by simp at h⟩
  | succ n ih =>
    intro h
    obtain ⟨es, hl, he⟩ := ih fun i hi => h i (by omega)
    obtain ⟨x, hx⟩ := h n (by omega)
    refine ⟨es ++ [x], by simp [hl], fun i e hi => ?_⟩
    by_cases hin : i < es.length
    · rw [List.getElem?_append_left hin] at hi
      exact he i e hi
    · rw [List.getElem?_append_right (by omega)] at hi
      have : i = es.length := by
        rcases Nat.lt_or_ge (i - es.length) 1 with h1 | h1
        · omega
        · rw [List.getElem?_eq_none (by simpa using h1)] at hi; cases hi
      subst this
      simp at hi
      subst hi
      rw [hl]; exact hx

theorem flat_range' {α : Type} (f : α → List Value) (css : Nat → List Value) : ∀ (es : List α) (s : Nat), (∀ i e, es[i]? = some e → css (s + i) = f e) → (List.range' s es.length).flatMap css = es.flatMap f := by
  intro es
  induction es with
  | nil => intro _ _; rfl
  | cons x es ih =>
    intro s h
    rw [List.length_cons, List.range'_succ, List.flatMap_cons, List.flatMap_cons, ih (s + 1) fun i e hi => by
      have := h (i + 1) e (by simpa using hi)
      rw [← this]; congr 1; omega]
    rw [← h 0 x (by simp)]
    rfl
theorem flat_range {α : Type} (f : α → List Value) (css : Nat → List Value) (es : List α) (h : ∀ i e, es[i]? = some e → css i = f e) : (List.range es.length).flatMap css = es.flatMap f := by
  rw [List.range_eq_range']
  exact flat_range' f css es 0 fun i e hi => by rw [Nat.zero_add]; exact h i e hi

section
variable {H : Type} {enc : TypeId × Value → H} {P : Program} {w : World} {held : Bool}

/-- What the form's own reach says of a datum. -/
def Wd (P : Program) (t : TypeId) (d : DataW H) : Prop := ∀ n ∈ d.weights P t, n ≤ 140737488351232
theorem wd_arg {ts : List TypeId} {ds : List (DataW H)} (h : (DataW.weightsEach P ts ds).all (· ≤ reachBytes) = true) {j : Nat} {t : TypeId} {d : DataW H} (ht : ts[j]? = some t) (hd : ds[j]? = some d) : Wd P t d := by
  intro n hn
  have := List.all_eq_true.1 h _ (DataW.weights_mem_each ht hd n hn)
  have e : reachBytes = 140737488351232 := by decide
  simpa [e] using this
theorem wd_each {ts : List TypeId} {ds : List (DataW H)} (h : ∀ n ∈ DataW.weightsEach P ts ds, n ≤ 140737488351232) {j : Nat} {t : TypeId} {d : DataW H} (ht : ts[j]? = some t) (hd : ds[j]? = some d) : Wd P t d :=
  fun n hn => h n (DataW.weights_mem_each ht hd n hn)
theorem weights_mem_all {e : TypeId} : ∀ {l : List (DataW H)} {d : DataW H}, d ∈ l → ∀ n ∈ d.weights P e, n ∈ DataW.weightsAll P e l := by
  intro l
  induction l with
  | nil => intro d h; cases h
  | cons x l ih =>
    intro d h n hn
    simp only [DataW.weightsAll, List.mem_append]
    rcases List.mem_cons.1 h with rfl | h
    · exact .inl hn
    · exact .inr (ih h n hn)
theorem wd_slice {t e : TypeId} {elems spare : List (DataW H)} (hu : P.underlying t = some (.slice e)) (h : Wd P t (.slice elems spare)) :
    (elems.length + spare.length) * P.bytesOf e ≤ 140737488351232 ∧ (∀ d ∈ elems, Wd P e d) := by
  refine ⟨h _ (by simp [DataW.weights, hu]), fun d hd n hn => h n ?_⟩
  simp only [DataW.weights, hu, List.mem_cons, List.mem_append]
  exact .inr (.inl (weights_mem_all hd n hn))
theorem wd_struct {t : TypeId} {fs : Array Field} {parts : List (DataW H)} (hu : P.underlying t = some (.struct fs)) (h : Wd P t (.agg parts)) {j : Nat} {f : Field} {d : DataW H} (hf : fs[j]? = some f) (hd : parts[j]? = some d) : Wd P f.type d := by
  refine wd_each (ts := fs.toList.map (·.type)) (ds := parts) (fun n hn => h n ?_) (j := j) (by simp [hf]) hd
  simp only [DataW.weights, hu]
  exact hn

/-- What is known of a slice that came in: its cells, its bounds, where it lies. -/
def Came (w : World) (size bytes : Nat) (A : Option Addr) (n c : Nat) (xs : List Value) : Prop :=
  Rd w size A n xs ∧ n ≤ c ∧ c ≤ 9223372036854775807 ∧ c * bytes ≤ 140737488351232 ∧ (0 < n → ∀ k, fp A k → k < w.heap.size)

/-- A slice of whatever elements. -/
theorem open_any {t e : TypeId} {fuel k : Nat} {cs : List Value} {x : DataW H × List MemPlace} (ht : P.underlying t = some (.slice e)) (hk : P.cellsOf e = k) (hk0 : 0 < k)
    (h : DataW.trod enc P w 0 (fun _ => true) held fuel t cs = some x) (hw : Wd P t x.1) :
    ∃ (A : Option Addr) (n c : Nat) (css : Nat → List Value) (D : Nat → DataW H), cs = [.slice A n c] ∧ Came w k (P.bytesOf e) A n c ((List.range n).flatMap css) ∧
      ∀ i, i < n → (css i).length = k ∧ Wd P e (D i) ∧ ∃ m pl, DataW.trod enc P w 0 (fun _ => true) held m e (css i) = some (D i, pl) := by
  rcases open_slice ht h with ⟨rfl, rfl⟩ | ⟨a, len, cap, m, n, D, Pl, rfl, hb, hl, hm, hmm, rfl, hi⟩
  · exact ⟨none, 0, 0, fun _ => [], fun _ => .nil, rfl, ⟨Rd.none_, Nat.le_refl _, by omega, by omega, fun h => absurd h (by omega)⟩, fun i hi => absurd hi (by omega)⟩
  · simp only [if_true] at hmm
    subst hmm
    have hw2 := wd_slice ht hw
    simp only [List.length_map, List.length_range] at hw2
    have hch : ∀ i, i < m → ∃ cs', w.cells? 0 (a.add (i * P.cellsOf e)) (P.cellsOf e) = some cs' ∧ DataW.trod enc P w 0 (fun _ => true) held n e cs' = some (D i, Pl i) := hi
    obtain ⟨cl, hcl, hcp⟩ := list_choice _ m hch
    have hget : ∀ i, i < m → ∃ cs', cl[i]? = some cs' := fun i hi => ⟨_, List.getElem?_eq_getElem (by omega)⟩
    have hcell : ∀ i, i < m → ∀ cs', cl[i]? = some cs' → cs'.length = k ∧ ∀ j u, cs'[j]? = some u → w.cell? (a.add (i * k + j)) = some u := by
      intro i hi cs' hc
      obtain ⟨h1, _⟩ := hcp i cs' hc
      obtain ⟨_, hlen, hat⟩ := World.cells?_some h1
      rw [hk] at hlen hat
      refine ⟨hlen, fun j u hu => ?_⟩
      have hj : j < k := by
        rcases Nat.lt_or_ge j cs'.length with h2 | h2
        · omega
        · rw [List.getElem?_eq_none h2] at hu; cases hu
      rw [← add_of_add, hat j hj, hu]
    refine ⟨some a, len, m, fun i => (cl[i]?).getD [], D, rfl, ⟨⟨?_, fun _ => ⟨a, rfl, ?_⟩⟩, hl, by simpa [maxLen] using hm, ?_, ?_⟩, ?_⟩
    · have : ∀ q, q ≤ m → ((List.range q).flatMap fun i => (cl[i]?).getD []).length = q * k := by
        intro q
        induction q with
        | zero => intro _; simp
        | succ q ih =>
          intro hq
          obtain ⟨cs', hc⟩ := hget q (by omega)
          rw [List.range_succ, List.flatMap_append, List.length_append, ih (by omega), List.flatMap_singleton, hc, Option.getD_some, (hcell q (by omega) cs' hc).1, Nat.succ_mul]
      exact this len hl
    · have hlq : ∀ q, q ≤ m → ((List.range q).flatMap fun i => (cl[i]?).getD []).length = q * k := by
        intro q
        induction q with
        | zero => intro _; simp
        | succ q ih =>
          intro hq
          obtain ⟨cs', hc⟩ := hget q (by omega)
          rw [List.range_succ, List.flatMap_append, List.length_append, ih (by omega), List.flatMap_singleton, hc, Option.getD_some, (hcell q (by omega) cs' hc).1, Nat.succ_mul]
      have : ∀ q, q ≤ m → ∀ j u, ((List.range q).flatMap fun i => (cl[i]?).getD [])[j]? = some u → w.cell? (a.add j) = some u := by
        intro q
        induction q with
        | zero => intro _ j u hu; simp at hu
        | succ q ih =>
          intro hq j u hu
          obtain ⟨cs', hc⟩ := hget q (by omega)
          have hlen := hlq q (by omega)
          rw [List.range_succ, List.flatMap_append, List.flatMap_singleton, hc, Option.getD_some] at hu
          rcases Nat.lt_or_ge j (q * k) with hj | hj
          · rw [List.getElem?_append_left (by omega)] at hu
            exact ih (by omega) j u hu
          · rw [List.getElem?_append_right (by omega), hlen] at hu
            have := (hcell q (by omega) cs' hc).2 _ u hu
            rwa [show q * k + (j - q * k) = j by omega] at this
      exact this len hl
    · have := hw2.1
      rwa [show len + (m - len) = m by omega] at this
    · rintro h0 b ⟨a', ha', rfl⟩
      cases ha'
      obtain ⟨cs', hc⟩ := hget 0 (by omega)
      obtain ⟨h1, h2⟩ := hcell 0 (by omega) cs' hc
      obtain ⟨u, hu⟩ : ∃ u, cs'[0]? = some u := ⟨_, List.getElem?_eq_getElem (by omega)⟩
      have := h2 0 u hu
      rw [Nat.zero_mul, Nat.zero_add, add_zero_] at this
      exact World.block_lt_of_cell? w _ this
    · intro i hi
      obtain ⟨cs', hc⟩ := hget i (by omega)
      simp only [hc, Option.getD_some]
      refine ⟨(hcell i (by omega) cs' hc).1, ?_, n, Pl i, (hcp i cs' hc).2⟩
      apply hw2.2
      simp only [List.mem_map, List.mem_range]
      exact ⟨i, hi, rfl⟩

/-- A slice of integers. -/
theorem open_nums {t e : TypeId} {kk : IntKind} {fuel : Nat} {cs : List Value} {x : DataW H × List MemPlace} (ht : P.underlying t = some (.slice e)) (he : P.underlying e = some (.int kk)) (hk : P.cellsOf e = 1)
    (h : DataW.trod enc P w 0 (fun _ => true) held fuel t cs = some x) (hw : Wd P t x.1) :
    ∃ (A : Option Addr) (n c : Nat) (zs : List Int), cs = [.slice A n c] ∧ Came w 1 (P.bytesOf e) A n c (zs.map (.int kk ·)) ∧ ∀ z ∈ zs, (Lit.int kk z).wf = true := by
  obtain ⟨A, n, c, css, D, rfl, hc, hi⟩ := open_any ht hk (by omega) h hw
  have hch : ∀ i, i < n → ∃ z : Int, css i = [.int kk z] ∧ (Lit.int kk z).wf = true := by
    intro i hin
    obtain ⟨_, _, m, pl, htr⟩ := hi i hin
    obtain ⟨z, hz, _, hwf⟩ := DataW.trod_int he htr
    exact ⟨z, hz, hwf⟩
  obtain ⟨zs, hl, hz⟩ := list_choice _ n hch
  refine ⟨A, n, c, zs, rfl, ?_, ?_⟩
  · have e1 : (List.range n).flatMap css = zs.map (.int kk ·) := by
      rw [← hl, flat_range (fun z => [Value.int kk z]) css zs fun i e hie => (hz i e hie).1]
      clear hz hl
      induction zs with
      | nil => rfl
      | cons z zs ih => simp [List.flatMap_cons, ih]
    rwa [e1] at hc
  · intro z hm
    obtain ⟨i, hi1, hi2⟩ := List.getElem_of_mem hm
    exact (hz i z (by rw [List.getElem?_eq_getElem hi1, hi2])).2

/-- Bytes. -/
theorem open_bytes {t e : TypeId} {fuel : Nat} {cs : List Value} {x : DataW H × List MemPlace} (ht : P.underlying t = some (.slice e)) (he : P.underlying e = some (.int .u8)) (hk : P.cellsOf e = 1)
    (h : DataW.trod enc P w 0 (fun _ => true) held fuel t cs = some x) (hw : Wd P t x.1) :
    ∃ (A : Option Addr) (n c : Nat) (l : List UInt8), cs = [.slice A n c] ∧ Came w 1 (P.bytesOf e) A n c (bvs l) := by
  obtain ⟨A, n, c, zs, rfl, hc, hz⟩ := open_nums ht he hk h hw
  refine ⟨A, n, c, zs.map fun z => UInt8.ofNat z.toNat, rfl, ?_⟩
  have e1 : bvs (zs.map fun z => UInt8.ofNat z.toNat) = zs.map (.int .u8 ·) := by
    simp only [bvs, List.map_map]
    apply List.map_congr_left
    intro z hm
    have hb : 0 ≤ z ∧ z ≤ 255 := by simpa [Lit.wf, IntKind.min, IntKind.max, IntKind.signed, IntKind.bits] using hz z hm
    have : ((UInt8.ofNat z.toNat).toNat : Int) = z := by
      rw [UInt8.toNat_ofNat']
      omega
    simp only [Function.comp, bv, this]
  rwa [e1]

/-- A struct of one-cell fields. -/
theorem open_fields {t : TypeId} {fs : Array Field} {fuel : Nat} {cs : List Value} {x : DataW H × List MemPlace} (he : P.underlying t = some (.struct fs)) (hone : oneCellFields P fs = true) (hC : P.cellsOf t = fs.size)
    (h : DataW.trod enc P w 0 (fun _ => true) held fuel t cs = some x) (hw : Wd P t x.1) :
    cs.length = fs.size ∧ ∀ (j : Nat) (f : Field), fs[j]? = some f → ∃ (v : Value) (m : Nat) (y : DataW H × List MemPlace), cs[j]? = some v ∧ DataW.trod enc P w 0 (fun _ => true) held m f.type [v] = some y ∧ Wd P f.type y.1 := by
  obtain ⟨ys, n', _, rfl, hlen, hyl, hf⟩ := DataW.trod_struct he h
  refine ⟨by rw [hlen, hC], fun j f hj => ?_⟩
  obtain ⟨ho, hk⟩ := hone_of hone j f hj
  have hjl : j < fs.size := (Array.getElem?_eq_some_iff.1 hj).1
  have hv : cs[j]? = some (cs[j]'(by omega)) := List.getElem?_eq_getElem (by omega)
  have h1 := hf j f hj
  rw [ho, hk] at h1
  have hone' : (cs.drop j).take 1 = [cs[j]'(by omega)] := by
    rw [List.drop_eq_getElem_cons (by omega)]
    rfl
  rw [hone'] at h1
  have hys : ys[j]? = some (ys[j]'(by omega)) := List.getElem?_eq_getElem (by omega)
  refine ⟨_, n', _, hv, h1.trans hys, wd_struct he hw hj ?_⟩
  rw [List.getElem?_map, hys]
  rfl
end
end Go.Proofs.Ytdekehhmjehicaa
/-
  PostFull: for every input the law returns true, and each argument reads as it did. No condition.
-/
namespace Go.Proofs.Ytdekehhmjehicaa.lawFull
open Go.ChangeShapes Go.WideShapes Go.ChangeAt Go.RowKit Go.Deep
open Go.ChangeMaps (open_string shut_string)
set_option linter.unusedVariables false

set_option maxRecDepth 100000 in
theorem lifted (os : Os) (started : os.Started) (H : Type) (enc : TypeId × Value → H) :
    ReturnsInHanded {} Try.checked os 4 .any (Rows.postFullSpec.pre6 enc Try.prog Try.f4 Rows.postFullRow.domain false) (Rows.postFullSpec.post enc Try.prog Try.f4 false true false false) := by
  refine returnsInHanded_of_change_sized (C := Try.checked) (by kernel_rfl) started (by kernel_rfl) Try.func4
    (ChangeSpec.witness6 (enc := enc) (C := Try.checked) false ⟨#[], #[.int .i64 0, .int .i64 0, .int .i64 0], []⟩ 8 (by kernel_rfl) (by kernel_rfl) (by kernel_rfl) (by kernel_rfl)) ?_
  intro W base args ds gs before hval0 hW hcnd hsz _
  have hval : ∀ (j : Nat) t v, Try.f4.params[j]? = some t → args[j]? = some v → Value.okWide Try.prog W .any base t v := hval0
  have hW' := hW
  obtain ⟨p, q, hA0, hV, rfl, hfz, hnd⟩ := hW
  have hA : DataW.TrodAll enc Try.prog W 0 (fun _ => true) true Try.f4.params.toList args.toList ds p := hA0
  rw [Try.params4] at hA hval
  have laidOut : laidOutB Try.prog = true := by kernel_rfl
  obtain ⟨v0, vs0, d0, ds0, p0, q0, hargs, rfl, rfl, h0, r0⟩ := trodAll_cons hA
  obtain ⟨v1, vs1, d1, ds1, p1, q1, rfl, rfl, rfl, h1, r1⟩ := trodAll_cons r0
  obtain ⟨v2, vs2, d2, ds2, p2, q2, rfl, rfl, rfl, h2, r2⟩ := trodAll_cons r1
  obtain ⟨rfl, rfl, rfl⟩ := trodAll_nil r2
  obtain rfl : args = #[v0, v1, v2] := by cases args; simp_all
  obtain ⟨rfl, rfl⟩ := trodVars_none hV
  have k0 := h0
  have lt0 : ∀ x ∈ p0, x.block < W.heap.size := by obtain ⟨m, hm⟩ := k0; exact DataW.trod_lt m _ _ _ hm
  have w0 : Wd Try.prog 3 d0 := wd_arg hsz (j := 0) rfl rfl
  have k1 := h1
  have lt1 : ∀ x ∈ p1, x.block < W.heap.size := by obtain ⟨m, hm⟩ := k1; exact DataW.trod_lt m _ _ _ hm
  have w1 : Wd Try.prog 3 d1 := wd_arg hsz (j := 1) rfl rfl
  have k2 := h2
  have lt2 : ∀ x ∈ p2, x.block < W.heap.size := by obtain ⟨m, hm⟩ := k2; exact DataW.trod_lt m _ _ _ hm
  have w2 : Wd Try.prog 3 d2 := wd_arg hsz (j := 2) rfl rfl
  obtain ⟨a0, rfl, rfl, rfl, wf0⟩ := open_int Try.underlying3 (hval 0 3 v0 rfl rfl) h0
  obtain ⟨a1, rfl, rfl, rfl, wf1⟩ := open_int Try.underlying3 (hval 1 3 v1 rfl rfl) h1
  obtain ⟨a2, rfl, rfl, rfl, wf2⟩ := open_int Try.underlying3 (hval 2 3 v2 rfl rfl) h2
  clear hA0 hval0
  refine ((postFull_walk W a0 a1 a2).mono (fun e w' h => (⟨h.1, h.2.below0⟩ : _ ∧ _))).mono fun e W' ⟨he, bel⟩ => ?_
  subst he
  exact ⟨_, rfl, _, _, _, [], _, [], hW', trodAll_mk1 (shut_bool Try.underlying4 _), (trodAll_cons_mk (Below.trod laidOut (by kernel_rfl) (of_decide_eq_true (by kernel_rfl)) k0 bel lt0) (trodAll_cons_mk (Below.trod laidOut (by kernel_rfl) (of_decide_eq_true (by kernel_rfl)) k1 bel lt1) (trodAll_cons_mk (Below.trod laidOut (by kernel_rfl) (of_decide_eq_true (by kernel_rfl)) k2 bel lt2) trodAll_mk0))), rfl, bel.frame _, fun h => by cases h⟩

theorem over : Rows.postFullRow.holds Try.pinned (OpenSpec.ofChange Rows.postFullSpec) :=
  OpenClaim.holds_of_wide 4 Try.f4 rfl rfl rfl rfl rfl rfl rfl ⟨rfl, rfl, rfl, rfl, rfl⟩ rfl rfl rfl rfl rfl (by kernel_rfl) Try.func4 (by kernel_rfl)
    (of_decide_eq_true (by kernel_rfl)) (by unfold Func.isWrapper; first | (rw [if_pos (by decide +kernel)]; kernel_rfl) | (rw [if_neg (by decide +kernel)]; exact ⟨rfl, rfl⟩))
    (fun os started H enc _ => lifted os started H enc)

theorem proved : Rows.PostFullSaid := over
end Go.Proofs.Ytdekehhmjehicaa.lawFull
