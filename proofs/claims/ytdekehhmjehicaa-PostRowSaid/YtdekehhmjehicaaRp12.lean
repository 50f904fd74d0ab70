import Derived.Test.YtdekehhmjehicaaRp1
import Derived.Test.YtdekehhmjehicaaRp11
import Derived.Test.YtdekehhmjehicaaRp8
import Derived.Deep.QuietTactic
import Derived.BigQuiet
/-
  post.Same.
-/
namespace Go.Proofs.Ytdekehhmjehicaa
set_option linter.unusedVariables false
set_option linter.unusedSimpArgs false
open Go.RowKit
set_option maxRecDepth 100000 in
set_option maxHeartbeats 8000000 in
theorem sameM_ok (w : World) (a b : Mg) (L D M E : SV) (ha : EnM w a.r.e L D) (hb : EnM w b.r.e M E) (hL : L.n ≤ 140737488355328) (hD : D.n ≤ 140737488355328) (hM : M.n ≤ 140737488355328) (hE : E.n ≤ 140737488355328) :
    Calls Try.prog 10 #[.agg #[.int .i64 a.frm, .int .i64 a.to, .int .i64 a.kind, .int .i64 a.r.i.r, .int .i64 a.r.i.n, .int .i64 a.r.bal, .int .i64 a.r.st, .int .i64 a.r.by_, .int .i64 a.r.e.o.c, .int .i64 a.r.e.o.s, .int .i64 a.r.e.o.k, .string (txt a.r.e.o.acct), .string (txt a.r.e.o.peer), .int .i64 a.r.e.o.sum, .slice L.a L.n L.c, .int .i64 a.r.e.o.per, .int .i64 a.r.e.o.hold, .string (txt a.r.e.o.note), .bool a.r.e.none, .slice D.a D.n D.c], .agg #[.int .i64 b.frm, .int .i64 b.to, .int .i64 b.kind, .int .i64 b.r.i.r, .int .i64 b.r.i.n, .int .i64 b.r.bal, .int .i64 b.r.st, .int .i64 b.r.by_, .int .i64 b.r.e.o.c, .int .i64 b.r.e.o.s, .int .i64 b.r.e.o.k, .string (txt b.r.e.o.acct), .string (txt b.r.e.o.peer), .int .i64 b.r.e.o.sum, .slice M.a M.n M.c, .int .i64 b.r.e.o.per, .int .i64 b.r.e.o.hold, .string (txt b.r.e.o.note), .bool b.r.e.none, .slice E.a E.n E.c]] w fun e w' => e = .returned (.bool (decide (a = b))) ∧ Mod none_ w w' := by
  have kE := Lib.hid (fun W (h : Mod none_ w W) => sameE_ok W a.r.e b.r.e L D M E (ha.mod0 h) (hb.mod0 h) hL hD hM hE)
  have hei := fun W => eql_is W a.r.i b.r.i
  unfold isV at hei
  replace ha := Lib.hid ha
  replace hb := Lib.hid hb
  obtain ⟨af, at_, ak, ⟨⟨ar, an⟩, ab, as_, ay, ae⟩⟩ := a
  obtain ⟨bf, bt, bk, ⟨⟨br, bn⟩, bb, bs, by_, be⟩⟩ := b
  dsimp only at kE hei ⊢
  go_enter Try.func10, Try.ntmps10
  go_wp2_with fail
  · with_reducible refine (kE.out _ (((Mod.refl none_ w).alloc _).alloc _)).mono ?_
    rintro e w1 ⟨rfl, hm1⟩
    dsimp only
    have hm : Mod none_ w w1 := (((Mod.refl none_ w).alloc _).alloc _).trans hm1
    clear hm1
    replace hm := Lib.hid hm
    go_wp2_with fail
    go_ret
    refine ⟨?_, hm.out⟩
    simp_all
  all_goals
    go_ret
    refine ⟨by simp_all, ((Mod.refl none_ w).alloc _).alloc _⟩
end Go.Proofs.Ytdekehhmjehicaa
/-
  The law's small messages, and lives. No condition.
-/
namespace Go.Proofs.Ytdekehhmjehicaa
set_option linter.unusedVariables false
set_option linter.unusedSimpArgs false
open Go.RowKit
def smM (f t : Int) : Mg := ⟨f, t, 6, ⟨⟨0, 1⟩, 8, 0, 0, en0⟩⟩
def sm (f t : Int) : Ms := ⟨smM f t, ⟨none, 0, 0⟩, ⟨none, 0, 0⟩⟩
set_option maxRecDepth 100000 in
theorem small_ok (w : World) (f t : Int) : Calls Try.prog 14 #[.int .i64 f, .int .i64 t] w fun e w' => e = .returned (.agg #[.int .i64 f, .int .i64 t, .int .i64 6, .int .i64 0, .int .i64 1, .int .i64 8, .int .i64 0, .int .i64 0, .int .i64 0, .int .i64 0, .int .i64 0, .string ⟨#[]⟩, .string ⟨#[]⟩, .int .i64 0, .slice none 0 0, .int .i64 0, .int .i64 0, .string ⟨#[]⟩, .bool false, .slice none 0 0]) ∧ Mod none_ w w' := by
  have hb0 := Lib.hid (Blk.new w 40 #[.int .i64 0, .int .i64 0, .int .i64 0, .int .i64 0, .int .i64 0, .int .i64 0, .int .i64 0, .int .i64 0, .int .i64 0, .int .i64 0, .int .i64 0, .string ⟨#[]⟩, .string ⟨#[]⟩, .int .i64 0, .slice none 0 0, .int .i64 0, .int .i64 0, .string ⟨#[]⟩, .bool false, .slice none 0 0])
  go_enter Try.func14, Try.ntmps14
  go_wp2_with (refine wpList_store_blk rfl 40 (.tmp 4) (.tmp 8) rfl w.heap.size 0 _ rfl rfl hb0.out (by simp) msg_size (by rfl) #[.int .i64 f, .int .i64 t, .int .i64 6, .int .i64 0, .int .i64 1, .int .i64 8, .int .i64 0, .int .i64 0, .int .i64 0, .int .i64 0, .int .i64 0, .string ⟨#[]⟩, .string ⟨#[]⟩, .int .i64 0, .slice none 0 0, .int .i64 0, .int .i64 0, .string ⟨#[]⟩, .bool false, .slice none 0 0] rfl ?_; intro w2 hb2 hm2; replace hb2 := Lib.hid hb2; replace hm2 := Lib.hid hm2)
  exact ret_row rfl w.heap.size rfl hb2.out Try.underlying40 rfl msg_size rfl ⟨rfl, ((Mod.refl none_ w).alloc _).in_new (Nat.le_refl _) hm2.out⟩
theorem sm_mem (w : World) (f t : Int) : EnM w (sm f t).m.r.e (sm f t).L (sm f t).D := en0_mem w
theorem sm_okk (f t : Int) : MsOk (sm f t) := ⟨by simp [sm], by simp [sm], (show (Lit.int .i64 en0.o.k).wf = true by decide), fun l hl => by cases hl⟩
theorem sm_nums (f t : Int) : numsE (smM f t).r.e := ⟨(show in64 en0.o.sum from ⟨by decide, by decide⟩), fun l hl => by cases hl⟩
theorem r01 : RtM (sm 0 1) = true := by decide
theorem r12 : RtM (sm 1 2) = true := by decide
theorem r00 : RtM zeroMs = false := by decide
theorem look0 (x : Ms) (xs : List Ms) : lookR (x :: xs) 0 = some x := rfl
/-- everything of the bag is new -/
structure NewBag (w W : World) (p : Nat) (A : Option Addr) (n c : Nat) (xs : List Ms) : Prop where
  st : BagSt W p A n c xs
  mod : Mod none_ w W
  np : w.heap.size ≤ p
  na : ∀ k, fp A k → w.heap.size ≤ k
theorem NewBag.mod0 {w W W' : World} {p : Nat} {A : Option Addr} {n c : Nat} {xs : List Ms} (h : NewBag w W p A n c xs) (hm : Mod none_ W W') : NewBag w W' p A n c xs := ⟨h.st.mod0 hm, h.mod.trans hm, h.np, h.na⟩
theorem NewBag.step {w W W' : World} {p : Nat} {A A' : Option Addr} {n c n' c' : Nat} {xs xs' : List Ms} (h : NewBag w W p A n c xs) (st : BagSt W' p A' n' c' xs') (hm : Mod (bagF p A) W W') (hA : ∀ k, fp A' k → fp A k ∨ W.heap.size ≤ k) : NewBag w W' p A' n' c' xs' :=
  ⟨st, h.mod.then hm (fun i hi hk => by
    rcases hk with hk | hk
    · have := h.np; omega
    · have := h.na i hk; omega), h.np, fun k hk => by
    rcases hA k hk with h1 | h1
    · exact h.na k h1
    · exact Nat.le_trans h.mod.size h1⟩
set_option maxRecDepth 100000 in
set_option maxHeartbeats 8000000 in
theorem lives_ok (w : World) : Calls Try.prog 6 #[] w fun e w' => e = .returned (.bool true) ∧ Mod none_ w w' := by
  go_enter Try.func6, Try.ntmps6
  go_wp2_with fail
  with_reducible refine (bagNew_ok w).mono ?_
  rintro e w1 ⟨rfl, hb1, hm1⟩
  dsimp only
  have nb1 := Lib.hid (show NewBag w w1 w.heap.size none 0 0 [] from ⟨hb1, hm1, Nat.le_refl _, fun k hk => by obtain ⟨a, ha, _⟩ := hk; cases ha⟩)
  clear hb1 hm1
  generalize hp : w.heap.size = p at *
  replace hp := Lib.hid hp
  go_wp2_with fail
  with_reducible refine (small_ok _ 0 1).mono ?_
  rintro e w2 ⟨rfl, hm2⟩
  dsimp only
  have nb2 := Lib.hid (nb1.out.mod0 hm2)
  clear hm2 nb1
  go_wp2_with fail
  with_reducible refine (small_ok _ 1 2).mono ?_
  rintro e w3 ⟨rfl, hm3⟩
  dsimp only
  have nb3 := Lib.hid ((nb2.out.mod0 hm3).mod0 ((Mod.refl none_ w3).alloc (.cells #[.int .i64 0, .int .i64 1, .int .i64 6, .int .i64 0, .int .i64 1, .int .i64 8, .int .i64 0, .int .i64 0, .int .i64 0, .int .i64 0, .int .i64 0, .string ⟨#[]⟩, .string ⟨#[]⟩, .int .i64 0, .slice none 0 0, .int .i64 0, .int .i64 0, .string ⟨#[]⟩, .bool false, .slice none 0 0, .int .i64 1, .int .i64 2, .int .i64 6, .int .i64 0, .int .i64 1, .int .i64 8, .int .i64 0, .int .i64 0, .int .i64 0, .int .i64 0, .int .i64 0, .string ⟨#[]⟩, .string ⟨#[]⟩, .int .i64 0, .slice none 0 0, .int .i64 0, .int .i64 0, .string ⟨#[]⟩, .bool false, .slice none 0 0, .int .i64 0, .int .i64 0, .int .i64 0, .int .i64 0, .int .i64 0, .int .i64 0, .int .i64 0, .int .i64 0, .int .i64 0, .int .i64 0, .int .i64 0, .string ⟨#[]⟩, .string ⟨#[]⟩, .int .i64 0, .slice none 0 0, .int .i64 0, .int .i64 0, .string ⟨#[]⟩, .bool false, .slice none 0 0] 40)))
  clear hm3 nb2
  have hrow : RdM (w3.alloc (.cells #[.int .i64 0, .int .i64 1, .int .i64 6, .int .i64 0, .int .i64 1, .int .i64 8, .int .i64 0, .int .i64 0, .int .i64 0, .int .i64 0, .int .i64 0, .string ⟨#[]⟩, .string ⟨#[]⟩, .int .i64 0, .slice none 0 0, .int .i64 0, .int .i64 0, .string ⟨#[]⟩, .bool false, .slice none 0 0, .int .i64 1, .int .i64 2, .int .i64 6, .int .i64 0, .int .i64 1, .int .i64 8, .int .i64 0, .int .i64 0, .int .i64 0, .int .i64 0, .int .i64 0, .string ⟨#[]⟩, .string ⟨#[]⟩, .int .i64 0, .slice none 0 0, .int .i64 0, .int .i64 0, .string ⟨#[]⟩, .bool false, .slice none 0 0, .int .i64 0, .int .i64 0, .int .i64 0, .int .i64 0, .int .i64 0, .int .i64 0, .int .i64 0, .int .i64 0, .int .i64 0, .int .i64 0, .int .i64 0, .string ⟨#[]⟩, .string ⟨#[]⟩, .int .i64 0, .slice none 0 0, .int .i64 0, .int .i64 0, .string ⟨#[]⟩, .bool false, .slice none 0 0] 40)) (some ⟨w3.heap.size, 0, none⟩) 3 [sm 0 1, sm 1 2, zeroMs] := by
    have h := rdn w3 40 20 3 w3.heap.size (#[.int .i64 0, .int .i64 1, .int .i64 6, .int .i64 0, .int .i64 1, .int .i64 8, .int .i64 0, .int .i64 0, .int .i64 0, .int .i64 0, .int .i64 0, .string ⟨#[]⟩, .string ⟨#[]⟩, .int .i64 0, .slice none 0 0, .int .i64 0, .int .i64 0, .string ⟨#[]⟩, .bool false, .slice none 0 0, .int .i64 1, .int .i64 2, .int .i64 6, .int .i64 0, .int .i64 1, .int .i64 8, .int .i64 0, .int .i64 0, .int .i64 0, .int .i64 0, .int .i64 0, .string ⟨#[]⟩, .string ⟨#[]⟩, .int .i64 0, .slice none 0 0, .int .i64 0, .int .i64 0, .string ⟨#[]⟩, .bool false, .slice none 0 0, .int .i64 0, .int .i64 0, .int .i64 0, .int .i64 0, .int .i64 0, .int .i64 0, .int .i64 0, .int .i64 0, .int .i64 0, .int .i64 0, .int .i64 0, .string ⟨#[]⟩, .string ⟨#[]⟩, .int .i64 0, .slice none 0 0, .int .i64 0, .int .i64 0, .string ⟨#[]⟩, .bool false, .slice none 0 0] : Array Value) (0, 0) rfl rfl
    exact h
  have kP := bagPut_ok _ p none 0 0 [] nb3.out.st (by omega) (some ⟨w3.heap.size, 0, none⟩) 3 3 [sm 0 1, sm 1 2, zeroMs] hrow (fun x hx => by simp at hx; rcases hx with rfl | rfl | rfl <;> exact en0_mem _) (fun x hx => by simp at hx; rcases hx with rfl | rfl | rfl; exact sm_okk 0 1; exact sm_okk 1 2; exact ⟨by simp [zeroMs], by simp [zeroMs], by decide, fun l hl => by cases hl⟩) (by omega)
  have hfil : [sm 0 1, sm 1 2, zeroMs].filter RtM = [sm 0 1, sm 1 2] := by simp [r01, r12, r00]
  rw [hfil] at kP
  unfold PutPost at kP
  have hput : putN [sm 0 1, sm 1 2].length 0 = 2 := rfl
  rw [hput] at kP
  clear hrow hfil hput
  replace kP := Lib.hid kP
  go_wp2_with fail
  with_reducible refine kP.out.mono ?_
  rintro e w4 ⟨A4, c4, rfl, hb4, hm4, hA4⟩
  dsimp only
  have nb4 := Lib.hid (show NewBag w w4 p A4 2 c4 [sm 0 1, sm 1 2] from nb3.out.step hb4 hm4 hA4)
  clear hb4 hm4 hA4 nb3 kP
  go_wp2_with fail
  with_reducible refine (bagTwice_ok w4 p A4 2 c4 _ nb4.out.st (by omega) 0).mono ?_
  rintro e w5 ⟨A5, n5, c5, rfl, hb5, hn5, hm5, hA5⟩
  have nb5 : NewBag w w5 p A5 n5 c5 [sm 0 1, sm 1 2, sm 0 1] := nb4.out.step hb5 hm5 hA5
  have hn5' : n5 = 3 := by have := nb5.st.len; simpa using this.symm
  subst hn5'
  have htw : twiceB [sm 0 1, sm 1 2] 0 2 = true := rfl
  rw [htw]
  dsimp only
  clear hb5 hm5 hA5 nb4 htw
  replace nb5 := Lib.hid nb5
  go_wp2_with fail
  with_reducible refine (bagTake_ok w5 p A5 3 c5 _ nb5.out.st (by omega) 0).mono ?_
  rintro e w6 ⟨v, n6, rfl, hv, hb6, hn6, hm6⟩
  have hv' : v = .tuple #[.agg #[.int .i64 0, .int .i64 1, .int .i64 6, .int .i64 0, .int .i64 1, .int .i64 8, .int .i64 0, .int .i64 0, .int .i64 0, .int .i64 0, .int .i64 0, .string ⟨#[]⟩, .string ⟨#[]⟩, .int .i64 0, .slice none 0 0, .int .i64 0, .int .i64 0, .string ⟨#[]⟩, .bool false, .slice none 0 0], .bool true] := by
    rcases hv with ⟨x, hx, rfl⟩ | ⟨hx, _⟩
    · rw [look0] at hx; cases hx; rfl
    · rw [look0] at hx; cases hx
  subst hv'
  dsimp only
  have nb6 : NewBag w w6 p A5 n6 c5 [sm 1 2, sm 0 1] := nb5.out.step hb6 hm6 (fun k hk => .inl hk)
  have hn6' : n6 = 2 := by have := nb6.st.len; simpa using this.symm
  subst hn6'
  have hq := Lib.hid (Blk.new w6 40 #[.int .i64 0, .int .i64 0, .int .i64 0, .int .i64 0, .int .i64 0, .int .i64 0, .int .i64 0, .int .i64 0, .int .i64 0, .int .i64 0, .int .i64 0, .string ⟨#[]⟩, .string ⟨#[]⟩, .int .i64 0, .slice none 0 0, .int .i64 0, .int .i64 0, .string ⟨#[]⟩, .bool false, .slice none 0 0])
  clear hb6 hm6 nb5 hv
  replace nb6 := Lib.hid nb6
  have kB : ∀ W, Calls Try.prog 8 #[.agg #[.int .i64 0, .int .i64 1, .int .i64 6, .int .i64 0, .int .i64 1, .int .i64 8, .int .i64 0, .int .i64 0, .int .i64 0, .int .i64 0, .int .i64 0, .string ⟨#[]⟩, .string ⟨#[]⟩, .int .i64 0, .slice none 0 0, .int .i64 0, .int .i64 0, .string ⟨#[]⟩, .bool false, .slice none 0 0]] W (BPost W (rightM (smM 0 1)) (msgB (smM 0 1))) := fun W => postBytes_ok W (smM 0 1) ⟨none, 0, 0⟩ ⟨none, 0, 0⟩ (en0_mem W) (by decide) (by decide) (by decide) (fun l hl => by cases hl) (sm_nums 0 1)
  rw [show rightM (smM 0 1) = true from r01] at kB
  replace kB := Lib.hid kB
  go_wp2_with (first
    | (refine wpList_store_blk rfl 40 (.tmp 4) (.tmp 22) rfl w6.heap.size 0 _ rfl rfl hq.out (by simp) msg_size (by rfl) #[.int .i64 0, .int .i64 1, .int .i64 6, .int .i64 0, .int .i64 1, .int .i64 8, .int .i64 0, .int .i64 0, .int .i64 0, .int .i64 0, .int .i64 0, .string ⟨#[]⟩, .string ⟨#[]⟩, .int .i64 0, .slice none 0 0, .int .i64 0, .int .i64 0, .string ⟨#[]⟩, .bool false, .slice none 0 0] rfl ?_; intro w7 hq7 hm7; have hm7' := ((Mod.refl none_ w6).alloc (.cells #[.int .i64 0, .int .i64 0, .int .i64 0, .int .i64 0, .int .i64 0, .int .i64 0, .int .i64 0, .int .i64 0, .int .i64 0, .int .i64 0, .int .i64 0, .string ⟨#[]⟩, .string ⟨#[]⟩, .int .i64 0, .slice none 0 0, .int .i64 0, .int .i64 0, .string ⟨#[]⟩, .bool false, .slice none 0 0] 40)).in_new (Nat.le_refl _) hm7; have nb7 := Lib.hid (nb6.out.mod0 hm7'); replace hq7 := Lib.hid hq7; clear hm7 hm7')
    | (refine wpList_load_row rfl 40 (.tmp 4) rfl w6.heap.size rfl _ _ _ _ hq7.out Try.underlying40 rfl msg_size ?_))
  with_reducible refine (kB.out _).mono ?_
  rintro e w8 hpost
  obtain ⟨A8, c8, rfl, ho8, hf8, hm8⟩ : ∃ A c, e = .returned (.tuple #[.slice A (msgB (smM 0 1)).length c, .int .i64 0]) ∧ OwB w8 5 A (msgB (smM 0 1)).length c (msgB (smM 0 1)) ∧ Fresh w7 A ∧ Mod none_ w7 w8 := by
    rcases hpost with ⟨_, h⟩ | ⟨h, _⟩
    · exact h
    · cases h
  dsimp only
  have nb8 := Lib.hid (nb7.out.mod0 hm8)
  have hq8 := Lib.hid (hq7.out.mod hm8 (fun h => h))
  have hml : (msgB (smM 0 1)).length ≤ 1000 := by decide +kernel
  have kRd := postRead_ok w8 A8 _ c8 (msgB (smM 0 1)) ho8.rd (by omega)
  have hrd : rdMsg (msgB (smM 0 1)) = (smM 0 1, 0) := rdMsg_of r01 (sm_nums 0 1)
  rw [hrd] at kRd
  clear hrd
  generalize (msgB (smM 0 1)).length = n8 at *
  clear hpost ho8 hf8 hm8 nb7 hq7 hq nb6
  replace kRd := Lib.hid kRd
  go_wp2_with fail
  with_reducible refine kRd.out.mono ?_
  rintro e w9 ⟨m9, f9, L9, D9, he, rfl, hE9, hm9⟩
  simp only [Prod.mk.injEq] at he
  obtain ⟨hm9e, rfl⟩ := he
  have h0 : (((0 : Nat) : Int)) = 0 := rfl
  rw [h0]
  dsimp only
  have nb9 := Lib.hid (nb8.out.mod0 hm9)
  have hq9 := Lib.hid (hq8.out.mod hm9 (fun h => h))
  have hz9 := Lib.hid (Blk.new w9 40 #[.int .i64 0, .int .i64 0, .int .i64 0, .int .i64 0, .int .i64 0, .int .i64 0, .int .i64 0, .int .i64 0, .int .i64 0, .int .i64 0, .int .i64 0, .string ⟨#[]⟩, .string ⟨#[]⟩, .int .i64 0, .slice none 0 0, .int .i64 0, .int .i64 0, .string ⟨#[]⟩, .bool false, .slice none 0 0])
  have hql := Lib.hid (show w6.heap.size < w9.heap.size from hq9.out.lt)
  have hdef := Lib.hid (show decide (smM 0 1 = m9) = true from decide_eq_true hm9e)
  clear h0 hm9 nb8 hq8 kRd
  replace hm9e := Lib.hid hm9e
  replace hE9 := Lib.hid hE9
  have hL9 : Hid (L9.n ≤ 140737488355328 ∧ D9.n ≤ 140737488355328) := Lib.hid (by
    have h1 := hE9.out.od.rd.len
    have h2 := hE9.out.rd.len
    rw [← hm9e.out] at h1 h2
    exact ⟨by rw [← h1]; decide, by rw [← h2]; decide⟩)
  go_wp2_with (refine wpList_store_blk rfl 40 (.tmp 8) (.tmp 32) rfl w9.heap.size 0 _ rfl rfl hz9.out (by simp) msg_size (by rfl) #[.int .i64 m9.frm, .int .i64 m9.to, .int .i64 m9.kind, .int .i64 m9.r.i.r, .int .i64 m9.r.i.n, .int .i64 m9.r.bal, .int .i64 m9.r.st, .int .i64 m9.r.by_, .int .i64 m9.r.e.o.c, .int .i64 m9.r.e.o.s, .int .i64 m9.r.e.o.k, .string (txt m9.r.e.o.acct), .string (txt m9.r.e.o.peer), .int .i64 m9.r.e.o.sum, .slice L9.a L9.n L9.c, .int .i64 m9.r.e.o.per, .int .i64 m9.r.e.o.hold, .string (txt m9.r.e.o.note), .bool m9.r.e.none, .slice D9.a D9.n D9.c] rfl ?_; intro w10 hy10 hm10; have hm10' := ((Mod.refl none_ w9).alloc (.cells #[.int .i64 0, .int .i64 0, .int .i64 0, .int .i64 0, .int .i64 0, .int .i64 0, .int .i64 0, .int .i64 0, .int .i64 0, .int .i64 0, .int .i64 0, .string ⟨#[]⟩, .string ⟨#[]⟩, .int .i64 0, .slice none 0 0, .int .i64 0, .int .i64 0, .string ⟨#[]⟩, .bool false, .slice none 0 0] 40)).in_new (Nat.le_refl _) hm10; have nb10 := Lib.hid (nb9.out.mod0 hm10'); have hq10 := Lib.hid (hq9.out.mod hm10' (fun h => h)); have hE10 := Lib.hid (hE9.out.mod0 hm10'); replace hy10 := Lib.hid hy10; clear hm10 hm10')
  with_reducible refine (bagLen_ok w10 p A5 2 c5 _ nb10.out.st).mono ?_
  rintro e w11 ⟨rfl, rfl⟩
  have h2 : (((2 : Nat) : Int)) = 2 := rfl
  rw [h2]
  dsimp only
  clear h2
  have kS : Hid (Calls Try.prog 10 #[.agg #[.int .i64 0, .int .i64 1, .int .i64 6, .int .i64 0, .int .i64 1, .int .i64 8, .int .i64 0, .int .i64 0, .int .i64 0, .int .i64 0, .int .i64 0, .string ⟨#[]⟩, .string ⟨#[]⟩, .int .i64 0, .slice none 0 0, .int .i64 0, .int .i64 0, .string ⟨#[]⟩, .bool false, .slice none 0 0], .agg #[.int .i64 m9.frm, .int .i64 m9.to, .int .i64 m9.kind, .int .i64 m9.r.i.r, .int .i64 m9.r.i.n, .int .i64 m9.r.bal, .int .i64 m9.r.st, .int .i64 m9.r.by_, .int .i64 m9.r.e.o.c, .int .i64 m9.r.e.o.s, .int .i64 m9.r.e.o.k, .string (txt m9.r.e.o.acct), .string (txt m9.r.e.o.peer), .int .i64 m9.r.e.o.sum, .slice L9.a L9.n L9.c, .int .i64 m9.r.e.o.per, .int .i64 m9.r.e.o.hold, .string (txt m9.r.e.o.note), .bool m9.r.e.none, .slice D9.a D9.n D9.c]] w10 fun e w' => e = .returned (.bool (decide (smM 0 1 = m9))) ∧ Mod none_ w10 w') := Lib.hid (sameM_ok w10 (smM 0 1) m9 ⟨none, 0, 0⟩ ⟨none, 0, 0⟩ L9 D9 (en0_mem _) hE10.out (by decide) (by decide) hL9.out.1 hL9.out.2)
  rw [hdef.out] at kS
  go_wp2_with (first
    | (refine wpList_step (fun K hK => ?_); rw [if_pos (by rfl)]; refine wp_load_row 40 (.tmp 4) rfl w6.heap.size rfl _ _ _ _ hq10.out Try.underlying40 rfl msg_size ?_; refine hK _ _ ?_)
    | (refine wpList_step (fun K hK => ?_); rw [if_pos (by rfl)]; refine wp_load_row 40 (.tmp 8) rfl w9.heap.size rfl _ _ _ _ hy10.out Try.underlying40 rfl msg_size ?_; refine hK _ _ ?_))
  with_reducible refine kS.out.mono ?_
  rintro e w12 ⟨rfl, hm12⟩
  dsimp only
  have nb12 := Lib.hid (nb10.out.mod0 hm12)
  have hq12 := Lib.hid (hq10.out.mod hm12 (fun h => h))
  clear hm12 nb10 hq10 kS hy10 hE10
  go_wp2_with fail
  with_reducible refine (bagFor_ok w12 p A5 2 c5 _ nb12.out.st (by omega) 1).mono ?_
  rintro e w13 ⟨A13, m13, c13, rfl, ho13, hf13, hm13⟩
  have h1 : m13 = 1 := by
    have := ho13.1
    have e : places 1 0 [sm 1 2, sm 0 1] = [1] := by decide
    rw [e] at this
    simpa [ivs] using this.symm
  subst h1
  dsimp only
  have nb13 := Lib.hid (nb12.out.mod0 hm13)
  have hq13 := Lib.hid (hq12.out.mod hm13 (fun h => h))
  clear hm13 nb12 hq12 ho13 hf13
  have kR : ∀ W, Calls Try.prog 12 #[.agg #[.int .i64 0, .int .i64 1, .int .i64 6, .int .i64 0, .int .i64 1, .int .i64 8, .int .i64 0, .int .i64 0, .int .i64 0, .int .i64 0, .int .i64 0, .string ⟨#[]⟩, .string ⟨#[]⟩, .int .i64 0, .slice none 0 0, .int .i64 0, .int .i64 0, .string ⟨#[]⟩, .bool false, .slice none 0 0]] W fun e' w' => e' = .returned (.bool (rightM (smM 0 1))) ∧ Mod none_ W w' := fun W => rightM_ok W (smM 0 1) ⟨none, 0, 0⟩ ⟨none, 0, 0⟩ (en0_mem W) (by decide) (by decide) (by decide) (fun l hl => by cases hl)
  rw [show rightM (smM 0 1) = true from r01] at kR
  replace kR := Lib.hid kR
  go_wp2_with (refine wpList_step (fun K hK => ?_); rw [if_pos (by rfl)]; refine wp_load_row 40 (.tmp 4) rfl w6.heap.size rfl _ _ _ _ hq13.out Try.underlying40 rfl msg_size ?_; refine hK _ _ ?_)
  with_reducible refine (kR.out _).mono ?_
  rintro e w14 ⟨rfl, hm14⟩
  dsimp only
  replace hm14 := Lib.hid hm14
  go_wp2_with fail
  go_ret
  exact ⟨rfl, nb13.out.mod.trans hm14.out⟩
end Go.Proofs.Ytdekehhmjehicaa
/-
  The law's few: the first messages, with few legs, and Deps. No condition.
-/
namespace Go.Proofs.Ytdekehhmjehicaa
set_option linter.unusedVariables false
set_option linter.unusedSimpArgs false
open Go.RowKit
def cutM (x : Ms) : Ms := ⟨⟨x.m.frm, x.m.to, x.m.kind, ⟨x.m.r.i, x.m.r.bal, x.m.r.st, x.m.r.by_, ⟨⟨x.m.r.e.o.c, x.m.r.e.o.s, x.m.r.e.o.k, x.m.r.e.o.acct, x.m.r.e.o.peer, x.m.r.e.o.sum, x.m.r.e.o.legs.take 8, x.m.r.e.o.per, x.m.r.e.o.hold, x.m.r.e.o.note⟩, x.m.r.e.none, x.m.r.e.deps.take 110⟩⟩⟩, ⟨x.L.a, min x.L.n 8, x.L.c⟩, ⟨x.D.a, min x.D.n 110, x.D.c⟩⟩
def fewL (xs : List Ms) (n : Nat) : List Ms := (xs.take n).map cutM
theorem lgs_take (ls : List Lg) (k : Nat) : (lgs ls).take (k * 2) = lgs (ls.take k) := by
  induction ls generalizing k with
  | nil => simp [lgs]
  | cons l ls ih =>
    cases k with
    | zero => simp [lgs]
    | succ k =>
      show (_ :: _ :: lgs ls).take ((k + 1) * 2) = _ :: _ :: lgs (ls.take k)
      rw [show (k + 1) * 2 = k * 2 + 1 + 1 by omega, List.take_succ_cons, List.take_succ_cons, ih]
theorem iss_take (ls : List Is) (k : Nat) : (iss ls).take (k * 2) = iss (ls.take k) := by
  induction ls generalizing k with
  | nil => simp [iss]
  | cons l ls ih =>
    cases k with
    | zero => simp [iss]
    | succ k =>
      show (_ :: _ :: iss ls).take ((k + 1) * 2) = _ :: _ :: iss (ls.take k)
      rw [show (k + 1) * 2 = k * 2 + 1 + 1 by omega, List.take_succ_cons, List.take_succ_cons, ih]
theorem cut_mem {w : World} {x : Ms} (h : EnM w x.m.r.e x.L x.D) : EnM w (cutM x).m.r.e (cutM x).L (cutM x).D := by
  have h1 := Rd.take_ h.od.rd (k := min x.L.n 8) (Nat.min_le_left _ _)
  have h2 := Rd.take_ h.rd (k := min x.D.n 110) (Nat.min_le_left _ _)
  rw [lgs_take] at h1
  rw [iss_take] at h2
  have e1 : x.m.r.e.o.legs.take (min x.L.n 8) = x.m.r.e.o.legs.take 8 := by have := h.od.rd.len; rw [← this, List.take_eq_take_iff]; omega
  have e2 : x.m.r.e.deps.take (min x.D.n 110) = x.m.r.e.deps.take 110 := by have := h.rd.len; rw [← this, List.take_eq_take_iff]; omega
  rw [e1] at h1
  rw [e2] at h2
  exact ⟨⟨h1, Nat.le_trans (Nat.min_le_left _ _) h.od.cap⟩, h2, Nat.le_trans (Nat.min_le_left _ _) h.cap⟩
theorem cut_ok {x : Ms} (h : MsOk x) : MsOk (cutM x) := by
  obtain ⟨h1, h2, h3, h4⟩ := h
  refine ⟨?_, ?_, h3, fun l hl => h4 l (List.mem_of_mem_take hl)⟩
  · show min x.L.n 8 ≤ _; omega
  · show min x.D.n 110 ≤ _; omega
theorem few_succ {xs : List Ms} {j : Nat} {x : Ms} (h : xs[j]? = some x) : fewL xs (j + 1) = fewL xs j ++ [cutM x] := by
  unfold fewL
  rw [List.take_add_one, h]
  simp
theorem few_len {xs : List Ms} {j : Nat} (h : j ≤ xs.length) : (fewL xs j).length = j := by unfold fewL; simp; omega
set_option maxRecDepth 100000 in
set_option maxHeartbeats 8000000 in
theorem few_ok (w : World) (A : Option Addr) (N c : Nat) (xs : List Ms) (h : RdM w A N xs) (hE : MsM w xs) (hk : ∀ x ∈ xs, MsOk x) (hN : N ≤ 140737488355328) (n : Nat) (hn : n ≤ 400) :
    Calls Try.prog 7 #[.slice A N c, .int .i64 (n : Int)] w fun e w' =>
      ∃ A' m c', e = .returned (.slice A' m c') ∧ OwM w' A' m c' (fewL xs n) ∧ Fresh w A' ∧ Mod none_ w w' := by
  have hl := Lib.hid h.len
  replace h := Lib.hid h
  replace hE := Lib.hid hE
  replace hk := Lib.hid hk
  go_enter Try.func7, Try.ntmps7
  go_wp2_with fail
  go_loopw [5, 6] (fun v y wr => ∃ j : Nat, y = .int .i64 j ∧ j ≤ N ∧ j ≤ n ∧ ∃ B d, v = .slice B j d ∧ OwM wr B j d (fewL xs j) ∧ Fresh w B ∧ Mod none_ w wr) (fun _ y _ => n - (intOf y).toNat)
  case atStart => exact ⟨0, rfl, by omega, by omega, none, 0, rfl, Ow.nil _ _ _, (fun a ha => by cases ha), Mod.refl _ _⟩
  case round =>
    obtain ⟨j, rfl, hjN, hjn, B, d, rfl, ho, hf, hm⟩ := hrel
    by_cases hlt : j < N
    · by_cases hlt2 : j < n
      · obtain ⟨b, o, x, hA, hxm, hx, hrg⟩ := rdm_get (w := wr) (Rd.mod0 h.out hm) hlt
        subst hA
        unfold msC at hrg
        have hb0 := Lib.hid (Blk.new wr 40 #[.int .i64 0, .int .i64 0, .int .i64 0, .int .i64 0, .int .i64 0, .int .i64 0, .int .i64 0, .int .i64 0, .int .i64 0, .int .i64 0, .int .i64 0, .string ⟨#[]⟩, .string ⟨#[]⟩, .int .i64 0, .slice none 0 0, .int .i64 0, .int .i64 0, .string ⟨#[]⟩, .bool false, .slice none 0 0])
        have hEx := hE.out x hxm
        obtain ⟨q1, q2, _, _⟩ := hk.out x hxm
        have q3 := hEx.od.cap
        have q4 := hEx.cap
        have q5 : min (x.L.n : Int) 8 = ((min x.L.n 8 : Nat) : Int) := by omega
        have q6 : min (x.D.n : Int) 110 = ((min x.D.n 110 : Nat) : Int) := by omega
        have q7 : ((min x.L.n 8 : Nat) : Int) ≤ (x.L.c : Int) := by omega
        have q8 : ((min x.D.n 110 : Nat) : Int) ≤ (x.D.c : Int) := by omega
        have q9 : min x.L.n 8 ≤ x.L.c := by omega
        have q10 : min x.D.n 110 ≤ x.D.c := by omega
        clear hEx
        replace ho := Lib.hid ho
        replace hf := Lib.hid hf
        replace hm := Lib.hid hm
        replace hxm := Lib.hid hxm
        replace hx := Lib.hid hx
        replace hrg := Lib.hid hrg
        go_upto_region 6 with (first
          | (refine wpList_load_mid rfl 40 (.tmp 21) rfl b (o + j * 20) rfl _ _ hrg.out Try.underlying40 rfl msg_size ?_)
          | (refine wpList_store_blk rfl 40 (.tmp 7) (.tmp 22) rfl wr.heap.size 0 _ rfl rfl hb0.out (by simp) msg_size (by rfl) #[.int .i64 x.m.frm, .int .i64 x.m.to, .int .i64 x.m.kind, .int .i64 x.m.r.i.r, .int .i64 x.m.r.i.n, .int .i64 x.m.r.bal, .int .i64 x.m.r.st, .int .i64 x.m.r.by_, .int .i64 x.m.r.e.o.c, .int .i64 x.m.r.e.o.s, .int .i64 x.m.r.e.o.k, .string (txt x.m.r.e.o.acct), .string (txt x.m.r.e.o.peer), .int .i64 x.m.r.e.o.sum, .slice x.L.a x.L.n x.L.c, .int .i64 x.m.r.e.o.per, .int .i64 x.m.r.e.o.hold, .string (txt x.m.r.e.o.note), .bool x.m.r.e.none, .slice x.D.a x.D.n x.D.c] rfl ?_; intro w2 hb2 hm2))
        have hm2' := ((Mod.refl none_ wr).alloc (.cells #[.int .i64 0, .int .i64 0, .int .i64 0, .int .i64 0, .int .i64 0, .int .i64 0, .int .i64 0, .int .i64 0, .int .i64 0, .int .i64 0, .int .i64 0, .string ⟨#[]⟩, .string ⟨#[]⟩, .int .i64 0, .slice none 0 0, .int .i64 0, .int .i64 0, .string ⟨#[]⟩, .bool false, .slice none 0 0] 40)).in_new (Nat.le_refl _) hm2
        have hM2 := Lib.hid (hm.out.trans hm2')
        have ho2 := Lib.hid (ho.out.mod0 hm2')
        have hvw := Lib.hid (show w.heap.size ≤ wr.heap.size from hm.out.size)
        have hBv := Lib.hid (show ∀ k, fp B k → k < wr.heap.size from ho.out.lt)
        generalize hv : wr.heap.size = v at *
        clear hm2 hm2'
        replace hv := Lib.hid hv
        have i0 : w2.cell? ⟨v, 14, none⟩ = some (.slice x.L.a x.L.n x.L.c) := hb2.cell_ rfl
        have i1 : w2.cell? ⟨v, 19, none⟩ = some (.slice x.D.a x.D.n x.D.c) := hb2.cell_ rfl
        have f0 : w2.frozen? ⟨v, 14, none⟩ = false := hb2.frozen 14
        have f1 : w2.frozen? ⟨v, 19, none⟩ = false := hb2.frozen 19
        have hb3 : Hid (Blk ((w2.setCell ⟨v, 14, none⟩ (.slice x.L.a (min x.L.n 8) x.L.c)).setCell ⟨v, 19, none⟩ (.slice x.D.a (min x.D.n 110) x.D.c)) v 40 #[.int .i64 x.m.frm, .int .i64 x.m.to, .int .i64 x.m.kind, .int .i64 x.m.r.i.r, .int .i64 x.m.r.i.n, .int .i64 x.m.r.bal, .int .i64 x.m.r.st, .int .i64 x.m.r.by_, .int .i64 x.m.r.e.o.c, .int .i64 x.m.r.e.o.s, .int .i64 x.m.r.e.o.k, .string (txt x.m.r.e.o.acct), .string (txt x.m.r.e.o.peer), .int .i64 x.m.r.e.o.sum, .slice x.L.a (min x.L.n 8) x.L.c, .int .i64 x.m.r.e.o.per, .int .i64 x.m.r.e.o.hold, .string (txt x.m.r.e.o.note), .bool x.m.r.e.none, .slice x.D.a (min x.D.n 110) x.D.c]) := Lib.hid ((hb2.set_ 14 _).set_ 19 _)
        have hM3 := Lib.hid (((Mod.refl (only v) w2).set_only 14 (.slice x.L.a (min x.L.n 8) x.L.c)).set_only 19 (.slice x.D.a (min x.D.n 110) x.D.c))
        replace hb2 := Lib.hid hb2
        go_upto_region 8 with fail
        generalize hW : ((w2.setCell ⟨v, 14, none⟩ (.slice x.L.a (min x.L.n 8) x.L.c)).setCell ⟨v, 19, none⟩ (.slice x.D.a (min x.D.n 110) x.D.c)) = W at *
        replace hW := Lib.hid hW
        have hM4 := Lib.hid ((hM2.out.in_new hvw.out hM3.out).alloc (.cells #[.int .i64 x.m.frm, .int .i64 x.m.to, .int .i64 x.m.kind, .int .i64 x.m.r.i.r, .int .i64 x.m.r.i.n, .int .i64 x.m.r.bal, .int .i64 x.m.r.st, .int .i64 x.m.r.by_, .int .i64 x.m.r.e.o.c, .int .i64 x.m.r.e.o.s, .int .i64 x.m.r.e.o.k, .string (txt x.m.r.e.o.acct), .string (txt x.m.r.e.o.peer), .int .i64 x.m.r.e.o.sum, .slice x.L.a (min x.L.n 8) x.L.c, .int .i64 x.m.r.e.o.per, .int .i64 x.m.r.e.o.hold, .string (txt x.m.r.e.o.note), .bool x.m.r.e.none, .slice x.D.a (min x.D.n 110) x.D.c] 40))
        have ho4 := Lib.hid ((ho2.out.mod hM3.out (fun k hk hh => by have : k = v := hh; have := hBv.out k hk; omega)).mod0 ((Mod.refl none_ W).alloc (.cells #[.int .i64 x.m.frm, .int .i64 x.m.to, .int .i64 x.m.kind, .int .i64 x.m.r.i.r, .int .i64 x.m.r.i.n, .int .i64 x.m.r.bal, .int .i64 x.m.r.st, .int .i64 x.m.r.by_, .int .i64 x.m.r.e.o.c, .int .i64 x.m.r.e.o.s, .int .i64 x.m.r.e.o.k, .string (txt x.m.r.e.o.acct), .string (txt x.m.r.e.o.peer), .int .i64 x.m.r.e.o.sum, .slice x.L.a (min x.L.n 8) x.L.c, .int .i64 x.m.r.e.o.per, .int .i64 x.m.r.e.o.hold, .string (txt x.m.r.e.o.note), .bool x.m.r.e.none, .slice x.D.a (min x.D.n 110) x.D.c] 40)))
        have hone := Lib.hid (show RdM (W.alloc (.cells #[.int .i64 x.m.frm, .int .i64 x.m.to, .int .i64 x.m.kind, .int .i64 x.m.r.i.r, .int .i64 x.m.r.i.n, .int .i64 x.m.r.bal, .int .i64 x.m.r.st, .int .i64 x.m.r.by_, .int .i64 x.m.r.e.o.c, .int .i64 x.m.r.e.o.s, .int .i64 x.m.r.e.o.k, .string (txt x.m.r.e.o.acct), .string (txt x.m.r.e.o.peer), .int .i64 x.m.r.e.o.sum, .slice x.L.a (min x.L.n 8) x.L.c, .int .i64 x.m.r.e.o.per, .int .i64 x.m.r.e.o.hold, .string (txt x.m.r.e.o.note), .bool x.m.r.e.none, .slice x.D.a (min x.D.n 110) x.D.c] 40)) (some ⟨W.heap.size, 0, none⟩) 1 [cutM x] from rdM_one W (cutM x))
        have hsn := Lib.hid (few_succ hx.out)
        clear i0 i1 f0 f1 hM2 ho2 hM3 hBv
        go_wp2_with (first
          | (refine wpList_load_row rfl 40 (.tmp 7) rfl v rfl _ _ _ _ hb3.out Try.underlying40 rfl msg_size ?_)
          | (at_builtin; go_loud (refine appM rfl (.tmp 48) (.tmp 50) rfl rfl ho4.out rfl hone.out (by omega) ?_; intro A5 c5 w5 ho5 hm5 hA5; replace ho5 := Lib.hid ho5; replace hm5 := Lib.hid hm5; replace hA5 := Lib.hid hA5)))
        go_roundw
        case rel => exact ⟨j + 1, by go_num, by omega, by omega, A5, c5, rfl, by rw [hsn.out]; exact ho5.out, Fresh.app hf.out hM4.out.size hA5.out, hM4.out.app hf.out hm5.out⟩
        case measure => simp [intOf]; omega
      · obtain rfl : j = n := by omega
        replace ho := Lib.hid ho
        replace hf := Lib.hid hf
        replace hm := Lib.hid hm
        go_wp2_with fail
        go_ret
        exact ⟨B, j, d, rfl, ho.out, hf.out, hm.out⟩
    · obtain rfl : j = N := by omega
      have e : fewL xs n = fewL xs j := by
        unfold fewL
        rw [List.take_of_length_le (l := xs) (i := n) (by rw [hl.out]; exact hjn), List.take_of_length_le (l := xs) (i := j) (by rw [hl.out]; exact Nat.le_refl _)]
      rw [← e] at ho
      clear e
      replace ho := Lib.hid ho
      replace hf := Lib.hid hf
      replace hm := Lib.hid hm
      go_wp2_with fail
      go_ret
      exact ⟨B, j, d, rfl, ho.out, hf.out, hm.out⟩
end Go.Proofs.Ytdekehhmjehicaa
/-
  The reference's comparison of bytes. No condition.
-/
namespace Go.Proofs.Ytdekehhmjehicaa
set_option linter.unusedVariables false
set_option linter.unusedSimpArgs false
open Go.RowKit
theorem conv_bytes (A : Option Addr) (n c : Nat) (l : List UInt8) (w : World) (h : RdB w A n l) : ∀ k, (convert 23 9 (.slice A n c)).run Try.prog (w.drewN k) = .ok (.string (txt l)) (w.drewN k) :=
  fun k => run_string_of_bytes (w.drewN k) _ _ 5 Try.underlying23 Try.underlying5 Try.underlying9 A n c l h
theorem conv_bytes0 (A : Option Addr) (n c : Nat) (l : List UInt8) (w : World) (h : RdB w A n l) : (convert 23 9 (.slice A n c)).run Try.prog w = .ok (.string (txt l)) w :=
  conv_bytes A n c l w h 0
theorem txt_inj (a b : List UInt8) : txt a = txt b ↔ a = b := by
  constructor
  · intro h
    have := congrArg ByteArray.toList h
    simpa using this
  · rintro rfl; rfl
theorem same2_ok (w : World) (A B : Option Addr) (n m d1 d2 : Nat) (la lb : List UInt8) (ha : RdB w A n la) (hb : RdB w B m lb) :
    Calls Try.prog 11 #[.slice A n d1, .slice B m d2] w fun e w' => e = .returned (.bool (decide (la = lb))) ∧ Mod none_ w w' := by
  have cv := conv_bytes _ _ d1 _ _ ha
  have cv' := conv_bytes _ _ d2 _ _ hb
  have cw := conv_bytes0 _ _ d1 _ _ ha
  have cw' := conv_bytes0 _ _ d2 _ _ hb
  have hinj := txt_inj la lb
  clear ha hb
  go_enter Try.func11, Try.ntmps11
  go_wp2_with (go_quiet (fail))
  go_ret
  refine ⟨?_, Mod.refl _ w⟩
  by_cases h : la = lb <;> simp [h]
end Go.Proofs.Ytdekehhmjehicaa
/-
  PostBack's walk. No condition.
-/
namespace Go.Proofs.Ytdekehhmjehicaa
set_option linter.unusedVariables false
set_option linter.unusedSimpArgs false
open Go.RowKit
theorem msgB_len {m : Mg} (h : rightM m = true) (hn : numsE m.r.e) : (msgB m).length ≤ 3000 := by
  obtain ⟨_, _, _, h4⟩ := rightM_ends h
  have := nb_len m.frm
  have := nb_len m.to
  have := nb_len m.kind
  have := nb_len 0
  have := nb_len 1
  have := nb_len m.r.bal
  unfold msgB
  cases hr : rightR m.r with
  | true =>
    have := recB_len (rightR_okRc hr hn)
    have := txtB_len (recB m.r)
    simp only [if_true, List.length_append]; omega
  | false =>
    rw [hr] at h4
    have h6 : rightR (bareR m.r) = true := by simpa using (h4.resolve_left (by simp)).2
    have := recB_len (rightR_okRc h6 hn)
    have := txtB_len (recB (bareR m.r))
    simp only [Bool.false_eq_true, if_false, List.length_append]; omega
theorem mkM_e {f t k : Int} {full : Bool} {bal : Int} {x : Rc} {m : Mg} (h : mkM f t k full bal x = some m) : m.r.e = x.e := by
  unfold mkM at h
  cases full with
  | true =>
    simp only [if_true] at h
    split at h
    · cases h; rfl
    · cases h
  | false =>
    simp only [Bool.false_eq_true, if_false] at h
    split at h
    · cases h; rfl
    · cases h
theorem rdMsg_in {b : List UInt8} {m : Mg} {f : Nat} (h : rdMsg b = (m, f)) : (m.r.e.o = od0 ∨ okOd m.r.e.o) ∧ m.r.e.deps.length ≤ 100 := by
  unfold rdMsg at h
  dsimp only at h
  generalize rdM (0, b) = p at h
  obtain ⟨x, g, hx⟩ := duo_ (rdRec p.1.2.2.2.2.2)
  rw [hx] at h
  dsimp only at h
  split at h
  · cases h; exact ⟨.inl rfl, by decide⟩
  · split at h
    · cases h; exact ⟨.inl rfl, by decide⟩
    · rename_i m' hm
      cases h
      rw [mkM_e hm]
      exact rdRec_in hx
theorem rdMsg_nums {b : List UInt8} {m : Mg} {f : Nat} (h : rdMsg b = (m, f)) : numsE m.r.e := by
  rcases (rdMsg_in h).1 with h1 | h1
  · unfold numsE
    rw [h1]
    exact ⟨⟨by decide, by decide⟩, fun l hl => by cases hl⟩
  · exact ⟨h1.2.2.2.2.2.1, fun l hl => (h1.2.2.2.2.2.2.2.1 l hl).2⟩
theorem rangeAt_mod {w w' : World} {g o : Nat} {vs : List Value} (h : w.rangeAt g o vs) (hm : Mod none_ w w') : w'.rangeAt g o vs := fun j v hv => hm.cell_some (h j v hv) (fun h => h)
set_option maxRecDepth 100000 in
set_option maxHeartbeats 8000000 in
theorem postBack_walk (w : World) (A : Option Addr) (N c : Nat) (xs : List Ms) (h : RdM w A N xs) (hE : MsM w xs) (hk : ∀ x ∈ xs, MsOk x) (hnm : ∀ x ∈ xs, numsE x.m.r.e) (hN : N ≤ 140737488355328)
    (A' : Option Addr) (n' c' : Nat) (b : List UInt8) (hb : RdB w A' n' b) (hn' : n' ≤ 140737488355328) (hc' : n' ≤ c') :
    Calls Try.prog 3 #[.slice A N c, .slice A' n' c'] w fun e w' => e = .returned (.bool true) ∧ Mod none_ w w' := by
  have kL := Lib.hid (lives_ok w)
  have hlb := Lib.hid hb.len
  replace h := Lib.hid h
  replace hE := Lib.hid hE
  replace hk := Lib.hid hk
  replace hnm := Lib.hid hnm
  replace hb := Lib.hid hb
  go_enter Try.func3, Try.ntmps3
  go_wp2_with fail
  refine kL.out.mono ?_
  rintro e w1 ⟨rfl, hm1⟩
  dsimp only
  have kF := Lib.hid (few_ok w1 A N c xs (Rd.mod0 h.out hm1) (hE.out.mod0 hm1) hk.out hN 20 (by omega))
  replace hm1 := Lib.hid hm1
  go_wp2_with fail
  refine kF.out.mono ?_
  rintro e w2 ⟨A2, m2, c2, rfl, ho2, hf2, hm2⟩
  dsimp only
  have hM2 := Lib.hid (hm1.out.trans hm2)
  have hl2 : m2 ≤ 20 := by
    have h1 := ho2.len
    have h2 : (fewL xs 20).length ≤ 20 := by unfold fewL; simp; omega
    omega
  have hE2 : Hid (∀ y ∈ fewL xs 20, EnM w2 y.m.r.e y.L y.D) := Lib.hid (fun y hy => by
    unfold fewL at hy
    rw [List.mem_map] at hy
    obtain ⟨x, hx, rfl⟩ := hy
    exact cut_mem ((hE.out x (List.mem_of_mem_take hx)).mod0 hM2.out))
  have hk2 : Hid (∀ y ∈ fewL xs 20, MsOk y) := Lib.hid (fun y hy => by
    unfold fewL at hy
    rw [List.mem_map] at hy
    obtain ⟨x, hx, rfl⟩ := hy
    exact cut_ok (hk.out x (List.mem_of_mem_take hx)))
  have hn2 : Hid (∀ y ∈ fewL xs 20, numsE y.m.r.e) := Lib.hid (fun y hy => by
    unfold fewL at hy
    rw [List.mem_map] at hy
    obtain ⟨x, hx, rfl⟩ := hy
    have := hnm.out x (List.mem_of_mem_take hx)
    exact ⟨this.1, fun l hl => this.2 l (List.mem_of_mem_take hl)⟩)
  generalize fewL xs 20 = ys at *
  have hw2 := Lib.hid (Rd.mod0 hb.out hM2.out : RdB w2 A' n' b)
  replace ho2 := Lib.hid ho2
  clear hm1 hm2 hf2 kF
  go_wp2_with fail
  go_loopw [5] (fun y wr => ∃ j : Nat, y = .int .i64 j ∧ j ≤ m2 ∧ Mod none_ w2 wr) (fun y _ => m2 - (intOf y).toNat)
  case atStart => exact ⟨0, rfl, by omega, Mod.refl _ _⟩
  case round =>
    obtain ⟨j, rfl, hj, hm⟩ := hrel
    by_cases hlt : j < m2
    · obtain ⟨g, o, x, hA, hxm, hx, hrg⟩ := rdm_get (w := wr) (Rd.mod0 (Ow.rd ho2.out) hm) hlt
      subst hA
      unfold msC at hrg
      have hEx := (hE2.out x hxm).mod0 hm
      obtain ⟨q1, q2, q3, q4⟩ := hk2.out x hxm
      have kB := Lib.hid (postBytes_ok wr x.m x.L x.D hEx q1 q2 q3 q4 (hn2.out x hxm))
      have hnx := Lib.hid (hn2.out x hxm)
      replace hm := Lib.hid hm
      replace hxm := Lib.hid hxm
      replace hx := Lib.hid hx
      replace hrg := Lib.hid hrg
      replace hEx := Lib.hid hEx
      replace q3 := Lib.hid q3
      replace q4 := Lib.hid q4
      go_wp2_with (refine wpList_load_mid rfl 40 (.tmp 27) rfl g (o + j * 20) rfl _ _ hrg.out Try.underlying40 rfl msg_size ?_)
      with_reducible refine kB.out.mono ?_
      rintro e w3 hpost
      rcases hpost with ⟨hr, A3, c3, rfl, ho3, hf3, hm3⟩ | ⟨hr, rfl, hm3⟩
      · dsimp only
        have hml : (msgB x.m).length ≤ 100000000 := by
          have := msgB_len hr hnx.out
          omega
        have kRd := postRead_ok w3 A3 _ c3 (msgB x.m) ho3.rd hml
        rw [rdMsg_of hr hnx.out] at kRd
        have hM3 := Lib.hid (hm.out.trans hm3)
        have hE3 := Lib.hid (hEx.out.mod0 hm3)
        have hrg3 := Lib.hid (rangeAt_mod hrg.out hm3)
        generalize (msgB x.m).length = n3 at *
        clear ho3 hf3 hm3 hml kB
        replace kRd := Lib.hid kRd
        replace hr := Lib.hid hr
        go_wp2_with fail
        with_reducible refine kRd.out.mono ?_
        rintro e w4 ⟨m4, f4, L4, D4, he, rfl, hE4, hm4⟩
        simp only [Prod.mk.injEq] at he
        obtain ⟨hm4e, rfl⟩ := he
        have h0 : (((0 : Nat) : Int)) = 0 := rfl
        rw [h0]
        dsimp only
        have hM4 := Lib.hid (hM3.out.trans hm4)
        have hEx4 := Lib.hid (hE3.out.mod0 hm4)
        have hrg4 := Lib.hid (rangeAt_mod hrg3.out hm4)
        have hz4 := Lib.hid (Blk.new w4 40 #[.int .i64 0, .int .i64 0, .int .i64 0, .int .i64 0, .int .i64 0, .int .i64 0, .int .i64 0, .int .i64 0, .int .i64 0, .int .i64 0, .int .i64 0, .string ⟨#[]⟩, .string ⟨#[]⟩, .int .i64 0, .slice none 0 0, .int .i64 0, .int .i64 0, .string ⟨#[]⟩, .bool false, .slice none 0 0])
        have hdef := Lib.hid (show decide (m4 = x.m) = true from decide_eq_true hm4e.symm)
        clear h0 hm4 kRd hM3 hE3 hrg3
        replace hm4e := Lib.hid hm4e
        replace hE4 := Lib.hid hE4
        go_upto_region 10 with (refine wpList_store_blk rfl 40 (.tmp 8) (.tmp 37) rfl w4.heap.size 0 _ rfl rfl hz4.out (by simp) msg_size (by rfl) #[.int .i64 m4.frm, .int .i64 m4.to, .int .i64 m4.kind, .int .i64 m4.r.i.r, .int .i64 m4.r.i.n, .int .i64 m4.r.bal, .int .i64 m4.r.st, .int .i64 m4.r.by_, .int .i64 m4.r.e.o.c, .int .i64 m4.r.e.o.s, .int .i64 m4.r.e.o.k, .string (txt m4.r.e.o.acct), .string (txt m4.r.e.o.peer), .int .i64 m4.r.e.o.sum, .slice L4.a L4.n L4.c, .int .i64 m4.r.e.o.per, .int .i64 m4.r.e.o.hold, .string (txt m4.r.e.o.note), .bool m4.r.e.none, .slice D4.a D4.n D4.c] rfl ?_; intro w5 hb5 hm5)
        have hm5' := ((Mod.refl none_ w4).alloc (.cells #[.int .i64 0, .int .i64 0, .int .i64 0, .int .i64 0, .int .i64 0, .int .i64 0, .int .i64 0, .int .i64 0, .int .i64 0, .int .i64 0, .int .i64 0, .string ⟨#[]⟩, .string ⟨#[]⟩, .int .i64 0, .slice none 0 0, .int .i64 0, .int .i64 0, .string ⟨#[]⟩, .bool false, .slice none 0 0] 40)).in_new (Nat.le_refl _) hm5
        have hM5 := Lib.hid ((hM4.out.trans hm5').drew)
        have hS5 : Blk w5.drew w4.heap.size 40 #[.int .i64 m4.frm, .int .i64 m4.to, .int .i64 m4.kind, .int .i64 m4.r.i.r, .int .i64 m4.r.i.n, .int .i64 m4.r.bal, .int .i64 m4.r.st, .int .i64 m4.r.by_, .int .i64 m4.r.e.o.c, .int .i64 m4.r.e.o.s, .int .i64 m4.r.e.o.k, .string (txt m4.r.e.o.acct), .string (txt m4.r.e.o.peer), .int .i64 m4.r.e.o.sum, .slice L4.a L4.n L4.c, .int .i64 m4.r.e.o.per, .int .i64 m4.r.e.o.hold, .string (txt m4.r.e.o.note), .bool m4.r.e.none, .slice D4.a D4.n D4.c] ∧ w5.drew.rangeAt g (o + j * 20) [.int .i64 x.m.frm, .int .i64 x.m.to, .int .i64 x.m.kind, .int .i64 x.m.r.i.r, .int .i64 x.m.r.i.n, .int .i64 x.m.r.bal, .int .i64 x.m.r.st, .int .i64 x.m.r.by_, .int .i64 x.m.r.e.o.c, .int .i64 x.m.r.e.o.s, .int .i64 x.m.r.e.o.k, .string (txt x.m.r.e.o.acct), .string (txt x.m.r.e.o.peer), .int .i64 x.m.r.e.o.sum, .slice x.L.a x.L.n x.L.c, .int .i64 x.m.r.e.o.per, .int .i64 x.m.r.e.o.hold, .string (txt x.m.r.e.o.note), .bool x.m.r.e.none, .slice x.D.a x.D.n x.D.c] := ⟨hb5.drew, rangeAt_mod hrg4.out hm5'.drew⟩
        have hEx5 := Lib.hid (hEx4.out.mod0 hm5'.drew)
        have hE5 := Lib.hid (hE4.out.mod0 hm5'.drew)
        have hL4 : Hid (L4.n ≤ 140737488355328 ∧ D4.n ≤ 140737488355328) := Lib.hid (by
          have h1 := hE4.out.od.rd.len
          have h2 := hE4.out.rd.len
          rw [← hm4e.out] at h1 h2
          have h3 := hEx4.out.od.rd.len
          have h4 := hEx4.out.rd.len
          exact ⟨by omega, by omega⟩)
        have kS := Lib.hid (sameM_ok w5.drew m4 x.m L4 D4 x.L x.D hE5.out hEx5.out hL4.out.1 hL4.out.2 q1 q2)
        rw [hdef.out] at kS
        clear hm5 hm5' hM4 hEx4 hrg4 hz4 hE4
        refine wp_region_held_drew (S := fun W => Blk W w4.heap.size 40 #[.int .i64 m4.frm, .int .i64 m4.to, .int .i64 m4.kind, .int .i64 m4.r.i.r, .int .i64 m4.r.i.n, .int .i64 m4.r.bal, .int .i64 m4.r.st, .int .i64 m4.r.by_, .int .i64 m4.r.e.o.c, .int .i64 m4.r.e.o.s, .int .i64 m4.r.e.o.k, .string (txt m4.r.e.o.acct), .string (txt m4.r.e.o.peer), .int .i64 m4.r.e.o.sum, .slice L4.a L4.n L4.c, .int .i64 m4.r.e.o.per, .int .i64 m4.r.e.o.hold, .string (txt m4.r.e.o.note), .bool m4.r.e.none, .slice D4.a D4.n D4.c] ∧ W.rangeAt g (o + j * 20) [.int .i64 x.m.frm, .int .i64 x.m.to, .int .i64 x.m.kind, .int .i64 x.m.r.i.r, .int .i64 x.m.r.i.n, .int .i64 x.m.r.bal, .int .i64 x.m.r.st, .int .i64 x.m.r.by_, .int .i64 x.m.r.e.o.c, .int .i64 x.m.r.e.o.s, .int .i64 x.m.r.e.o.k, .string (txt x.m.r.e.o.acct), .string (txt x.m.r.e.o.peer), .int .i64 x.m.r.e.o.sum, .slice x.L.a x.L.n x.L.c, .int .i64 x.m.r.e.o.per, .int .i64 x.m.r.e.o.hold, .string (txt x.m.r.e.o.note), .bool x.m.r.e.none, .slice x.D.a x.D.n x.D.c]) (by kernel_rfl) hS5 (fun hHeld => ?_)
        refine wpAnyH_take (i := 0) (v := ?_) rfl (by kernel_rfl) (by kernel_rfl) (by kernel_rfl) (fun _ _ _ h => h) (Or.inl ⟨by rfl, ?_⟩) (by assumption) ?_
        rotate_left
        · intro W hSw; (try dsimp only at hSw); go_simp; (try with_reducible rfl)
        try simp only [Act.put, List.getElem_toArray, List.getElem_cons_zero, List.getElem_cons_succ, List.setIfInBounds_toArray, List.set_cons_zero, List.set_cons_succ]
        refine wpAnyH_take (i := 1) (v := ?_) rfl (by kernel_rfl) (by kernel_rfl) (by kernel_rfl) (fun _ _ _ h => h) (Or.inl ⟨by rfl, ?_⟩) (by assumption) ?_
        rotate_left
        · intro W hSw; (try dsimp only at hSw); go_simp; (try with_reducible rfl)
        try simp only [Act.put, List.getElem_toArray, List.getElem_cons_zero, List.getElem_cons_succ, List.setIfInBounds_toArray, List.set_cons_zero, List.set_cons_succ]
        refine wpAnyH_take (i := 2) (v := ?_) rfl (by kernel_rfl) (by kernel_rfl) (by kernel_rfl) (fun _ _ _ h => h) (Or.inl ⟨by rfl, ?_⟩) (by assumption) ?_
        rotate_left
        · intro W hSw; (try dsimp only at hSw); go_simp; (try with_reducible rfl)
        try simp only [Act.put, List.getElem_toArray, List.getElem_cons_zero, List.getElem_cons_succ, List.setIfInBounds_toArray, List.set_cons_zero, List.set_cons_succ]
        refine wpAnyH_take (i := 3) rfl (by kernel_rfl) (by kernel_rfl) (by kernel_rfl) (fun _ _ _ h => h) (yieldsIf_load_mid (by rfl) 40 (.tmp 8) rfl w4.heap.size 0 rfl [.int .i64 m4.frm, .int .i64 m4.to, .int .i64 m4.kind, .int .i64 m4.r.i.r, .int .i64 m4.r.i.n, .int .i64 m4.r.bal, .int .i64 m4.r.st, .int .i64 m4.r.by_, .int .i64 m4.r.e.o.c, .int .i64 m4.r.e.o.s, .int .i64 m4.r.e.o.k, .string (txt m4.r.e.o.acct), .string (txt m4.r.e.o.peer), .int .i64 m4.r.e.o.sum, .slice L4.a L4.n L4.c, .int .i64 m4.r.e.o.per, .int .i64 m4.r.e.o.hold, .string (txt m4.r.e.o.note), .bool m4.r.e.none, .slice D4.a D4.n D4.c] _ (fun W hW => Blk.range hW.1 0 _ rfl) Try.underlying40 rfl msg_size) (by assumption) ?_
        try simp only [Act.put, List.getElem_toArray, List.getElem_cons_zero, List.getElem_cons_succ, List.setIfInBounds_toArray, List.set_cons_zero, List.set_cons_succ]
        refine wpAnyH_take (i := 4) (v := ?_) rfl (by kernel_rfl) (by kernel_rfl) (by kernel_rfl) (fun _ _ _ h => h) (Or.inl ⟨by rfl, ?_⟩) (by assumption) ?_
        rotate_left
        · intro W hSw; (try dsimp only at hSw); go_simp; (try with_reducible rfl)
        try simp only [Act.put, List.getElem_toArray, List.getElem_cons_zero, List.getElem_cons_succ, List.setIfInBounds_toArray, List.set_cons_zero, List.set_cons_succ]
        refine wpAnyH_take (i := 5) (v := ?_) rfl (by kernel_rfl) (by kernel_rfl) (by kernel_rfl) (fun _ _ _ h => h) (Or.inl ⟨by rfl, ?_⟩) (by assumption) ?_
        rotate_left
        · intro W hSw; (try dsimp only at hSw); go_simp; (try with_reducible rfl)
        try simp only [Act.put, List.getElem_toArray, List.getElem_cons_zero, List.getElem_cons_succ, List.setIfInBounds_toArray, List.set_cons_zero, List.set_cons_succ]
        refine wpAnyH_take (i := 6) (v := ?_) rfl (by kernel_rfl) (by kernel_rfl) (by kernel_rfl) (fun _ _ _ h => h) (Or.inl ⟨by rfl, ?_⟩) (by assumption) ?_
        rotate_left
        · intro W hSw; (try dsimp only at hSw); go_simp; (try with_reducible rfl)
        try simp only [Act.put, List.getElem_toArray, List.getElem_cons_zero, List.getElem_cons_succ, List.setIfInBounds_toArray, List.set_cons_zero, List.set_cons_succ]
        refine wpAnyH_take (i := 7) rfl (by kernel_rfl) (by kernel_rfl) (by kernel_rfl) (fun _ _ _ h => h) (yieldsIf_load_mid (by rfl) 40 (.tmp 45) rfl g (o + j * 20) rfl [.int .i64 x.m.frm, .int .i64 x.m.to, .int .i64 x.m.kind, .int .i64 x.m.r.i.r, .int .i64 x.m.r.i.n, .int .i64 x.m.r.bal, .int .i64 x.m.r.st, .int .i64 x.m.r.by_, .int .i64 x.m.r.e.o.c, .int .i64 x.m.r.e.o.s, .int .i64 x.m.r.e.o.k, .string (txt x.m.r.e.o.acct), .string (txt x.m.r.e.o.peer), .int .i64 x.m.r.e.o.sum, .slice x.L.a x.L.n x.L.c, .int .i64 x.m.r.e.o.per, .int .i64 x.m.r.e.o.hold, .string (txt x.m.r.e.o.note), .bool x.m.r.e.none, .slice x.D.a x.D.n x.D.c] _ (fun W hW => hW.2) Try.underlying40 rfl msg_size) (by assumption) ?_
        try simp only [Act.put, List.getElem_toArray, List.getElem_cons_zero, List.getElem_cons_succ, List.setIfInBounds_toArray, List.set_cons_zero, List.set_cons_succ]
        refine wpAnyH_ready (rs := [8]) (by kernel_rfl) (by simp) ?_
        refine AllReadyH.cons rfl (fun K hK => ?_) AllReadyH.nil
        go_simp
        (with_reducible refine kS.out.mono ?_); rintro e w6 ⟨rfl, hm6⟩; dsimp only
        have hS6 : Blk w6 w4.heap.size 40 #[.int .i64 m4.frm, .int .i64 m4.to, .int .i64 m4.kind, .int .i64 m4.r.i.r, .int .i64 m4.r.i.n, .int .i64 m4.r.bal, .int .i64 m4.r.st, .int .i64 m4.r.by_, .int .i64 m4.r.e.o.c, .int .i64 m4.r.e.o.s, .int .i64 m4.r.e.o.k, .string (txt m4.r.e.o.acct), .string (txt m4.r.e.o.peer), .int .i64 m4.r.e.o.sum, .slice L4.a L4.n L4.c, .int .i64 m4.r.e.o.per, .int .i64 m4.r.e.o.hold, .string (txt m4.r.e.o.note), .bool m4.r.e.none, .slice D4.a D4.n D4.c] ∧ w6.rangeAt g (o + j * 20) [.int .i64 x.m.frm, .int .i64 x.m.to, .int .i64 x.m.kind, .int .i64 x.m.r.i.r, .int .i64 x.m.r.i.n, .int .i64 x.m.r.bal, .int .i64 x.m.r.st, .int .i64 x.m.r.by_, .int .i64 x.m.r.e.o.c, .int .i64 x.m.r.e.o.s, .int .i64 x.m.r.e.o.k, .string (txt x.m.r.e.o.acct), .string (txt x.m.r.e.o.peer), .int .i64 x.m.r.e.o.sum, .slice x.L.a x.L.n x.L.c, .int .i64 x.m.r.e.o.per, .int .i64 x.m.r.e.o.hold, .string (txt x.m.r.e.o.note), .bool x.m.r.e.none, .slice x.D.a x.D.n x.D.c] := ⟨hS5.1.mod hm6 (fun h => h), rangeAt_mod hS5.2 hm6⟩
        have hM6 := Lib.hid (hM5.out.trans hm6)
        clear hm6 hM5
        go_wp2_with fail
        refine hK.out _ _ (hS6) (fun hHeld => ?_)
        clear hK K
        try simp only [Act.put, List.getElem_toArray, List.getElem_cons_zero, List.getElem_cons_succ, List.setIfInBounds_toArray, List.set_cons_zero, List.set_cons_succ]
        refine wpAnyH_take (i := 9) (v := ?_) rfl (by kernel_rfl) (by kernel_rfl) (by kernel_rfl) (fun _ _ _ h => h) (Or.inl ⟨by rfl, ?_⟩) (by assumption) ?_
        rotate_left
        · intro W hSw; (try dsimp only at hSw); go_simp; (try with_reducible rfl)
        try simp only [Act.put, List.getElem_toArray, List.getElem_cons_zero, List.getElem_cons_succ, List.setIfInBounds_toArray, List.set_cons_zero, List.set_cons_succ]
        refine wpAnyH_take (i := 10) (v := ?_) rfl (by kernel_rfl) (by kernel_rfl) (by kernel_rfl) (fun _ _ _ h => h) (Or.inl ⟨by rfl, ?_⟩) (by assumption) ?_
        rotate_left
        · intro W hSw; (try dsimp only at hSw); go_simp; (try with_reducible rfl)
        try simp only [Act.put, List.getElem_toArray, List.getElem_cons_zero, List.getElem_cons_succ, List.setIfInBounds_toArray, List.set_cons_zero, List.set_cons_succ]
        refine wpAnyH_done (by kernel_rfl) ?_ _
        clear hHeld hS5 hS6
        go_wp2_with fail
        go_roundw
        case rel => exact ⟨j + 1, by go_num, by omega, hM6.out⟩
        case measure => simp [intOf]; omega
      · dsimp only
        have hM3 := Lib.hid (hm.out.trans hm3)
        clear hm3 kB
        replace hr := Lib.hid hr
        go_wp2_with fail
        go_roundw
        case rel => exact ⟨j + 1, by go_num, by omega, hM3.out⟩
        case measure => simp [intOf]; omega
    · obtain rfl : j = m2 := by omega
      obtain ⟨k, hkk⟩ : ∃ k, k = min n' 2000 := ⟨_, rfl⟩
      have hk1 : min (n' : Int) 2000 = (k : Int) := by omega
      have hk2 : (k : Int) ≤ (c' : Int) := by omega
      have hk3 : k ≤ n' := by omega
      have hk4 : k ≤ 2000 := by omega
      have hk5 : k ≤ c' := by omega
      have hrb := Lib.hid (rdb_take (Rd.mod0 hw2.out hm) hk3)
      have kRd := postRead_ok wr A' k c' (b.take k) hrb.out (by omega)
      replace hkk := Lib.hid hkk
      replace hm := Lib.hid hm
      obtain ⟨mm, f, hmf⟩ := duo_ (rdMsg (b.take k))
      rw [hmf] at kRd
      replace kRd := Lib.hid kRd
      replace hmf := Lib.hid hmf
      go_wp2_with fail
      with_reducible refine kRd.out.mono ?_
      rintro e w4 ⟨m4, f4, L4, D4, he, rfl, hE4, hm4⟩
      simp only [Prod.mk.injEq] at he
      obtain ⟨rfl, rfl⟩ := he
      dsimp only
      have hM4 := Lib.hid (hM2.out.trans (hm.out.trans hm4))
      have hrb4 := Lib.hid (Rd.mod0 hrb.out hm4 : RdB w4 A' k (b.take k))
      have hz4 := Lib.hid (Blk.new w4 40 #[.int .i64 0, .int .i64 0, .int .i64 0, .int .i64 0, .int .i64 0, .int .i64 0, .int .i64 0, .int .i64 0, .int .i64 0, .int .i64 0, .int .i64 0, .string ⟨#[]⟩, .string ⟨#[]⟩, .int .i64 0, .slice none 0 0, .int .i64 0, .int .i64 0, .string ⟨#[]⟩, .bool false, .slice none 0 0])
      clear hm4 kRd
      replace hE4 := Lib.hid hE4
      by_cases hf : f = 0
      · subst hf
        obtain ⟨y1, y2⟩ := rdMsg_yes hmf.out
        have h0 : (((0 : Nat) : Int)) = 0 := rfl
        rw [h0]
        clear h0
        obtain ⟨v1, v2⟩ := rdMsg_in hmf.out
        obtain ⟨v3, v4, v5⟩ := od_facts v1
        have hL4 : L4.n ≤ 140737488355328 ∧ D4.n ≤ 140737488355328 := by
          have h1 := hE4.out.od.rd.len
          have h2 := hE4.out.rd.len
          exact ⟨by omega, by omega⟩
        have kB := Lib.hid (fun W (h : Mod none_ w4 W) => postBytes_ok W mm L4 D4 (hE4.out.mod0 h) hL4.1 hL4.2 v4 v5 (rdMsg_nums hmf.out))
        have kR := Lib.hid (fun W (h : Mod none_ w4 W) => rightM_ok W mm L4 D4 (hE4.out.mod0 h) hL4.1 hL4.2 v4 v5)
        rw [y1] at kB kR
        clear v1 v2 v3 v4 v5 hL4 y1
        replace y2 := Lib.hid y2
        go_wp2_with (first
          | (refine wpList_store_blk rfl 40 (.tmp 10) (.tmp 58) rfl w4.heap.size 0 _ rfl rfl hz4.out (by simp) msg_size (by rfl) #[.int .i64 mm.frm, .int .i64 mm.to, .int .i64 mm.kind, .int .i64 mm.r.i.r, .int .i64 mm.r.i.n, .int .i64 mm.r.bal, .int .i64 mm.r.st, .int .i64 mm.r.by_, .int .i64 mm.r.e.o.c, .int .i64 mm.r.e.o.s, .int .i64 mm.r.e.o.k, .string (txt mm.r.e.o.acct), .string (txt mm.r.e.o.peer), .int .i64 mm.r.e.o.sum, .slice L4.a L4.n L4.c, .int .i64 mm.r.e.o.per, .int .i64 mm.r.e.o.hold, .string (txt mm.r.e.o.note), .bool mm.r.e.none, .slice D4.a D4.n D4.c] rfl ?_; intro w5 hb5 hm5; have hm5' := Lib.hid (((Mod.refl none_ w4).alloc (.cells #[.int .i64 0, .int .i64 0, .int .i64 0, .int .i64 0, .int .i64 0, .int .i64 0, .int .i64 0, .int .i64 0, .int .i64 0, .int .i64 0, .int .i64 0, .string ⟨#[]⟩, .string ⟨#[]⟩, .int .i64 0, .slice none 0 0, .int .i64 0, .int .i64 0, .string ⟨#[]⟩, .bool false, .slice none 0 0] 40)).in_new (Nat.le_refl _) hm5); replace hb5 := Lib.hid hb5; clear hm5)
          | (refine wpList_load_row rfl 40 (.tmp 10) rfl w4.heap.size rfl _ _ _ _ hb5.out Try.underlying40 rfl msg_size ?_))
        with_reducible refine (kB.out _ hm5'.out).mono ?_
        rintro e w6 hpost
        obtain ⟨A6, c6, rfl, ho6, hf6, hm6⟩ : ∃ A c, e = .returned (.tuple #[.slice A (msgB mm).length c, .int .i64 0]) ∧ OwB w6 5 A (msgB mm).length c (msgB mm) ∧ Fresh w5 A ∧ Mod none_ w5 w6 := by
          rcases hpost with ⟨_, h⟩ | ⟨h, _⟩
          · exact h
          · cases h
        dsimp only
        have hmm6 := Lib.hid (hm5'.out.trans hm6)
        have hb6 := Lib.hid (hb5.out.mod hm6 (fun h => h))
        have kS := Lib.hid (same2_ok w6 A6 A' _ k c6 c' (msgB mm) (b.take k) ho6.rd (Rd.mod0 hrb4.out hmm6.out))
        have hdd : decide (msgB mm = b.take k) = true := decide_eq_true y2.out.symm
        rw [hdd] at kS
        generalize (msgB mm).length = n6 at *
        clear hpost ho6 hf6 hm6 hdd kB
        go_wp2_with fail
        with_reducible refine kS.out.mono ?_
        rintro e w7 ⟨rfl, hm7⟩
        dsimp only
        have hmm7 := Lib.hid (hmm6.out.trans hm7)
        have hb7 := Lib.hid (hb6.out.mod hm7 (fun h => h))
        clear hm7
        go_wp2_with (refine wpList_step (fun K hK => ?_); rw [if_pos (by rfl)]; refine wp_load_row 40 (.tmp 10) rfl w4.heap.size rfl _ _ _ _ hb7.out Try.underlying40 rfl msg_size ?_; refine hK _ _ ?_)
        with_reducible refine (kR.out _ hmm7.out).mono ?_
        rintro e w8 ⟨rfl, hm8⟩
        dsimp only
        replace hm8 := Lib.hid hm8
        go_wp2_with fail
        go_ret
        exact ⟨rfl, hM4.out.trans (hmm7.out.trans hm8.out)⟩
      · have hf2 : ((f : Int) != 0) = true := by simp; omega
        have hz : mm = mg0 := by
          rcases rdMsg_two (b.take k) with h1 | h1
          · rw [hmf.out] at h1; exact absurd h1 hf
          · rw [hmf.out] at h1; cases h1; rfl
        subst hz
        clear hf
        go_wp2_with (refine wpList_store_blk rfl 40 (.tmp 10) (.tmp 58) rfl w4.heap.size 0 _ rfl rfl hz4.out (by simp) msg_size (by rfl) #[.int .i64 mg0.frm, .int .i64 mg0.to, .int .i64 mg0.kind, .int .i64 mg0.r.i.r, .int .i64 mg0.r.i.n, .int .i64 mg0.r.bal, .int .i64 mg0.r.st, .int .i64 mg0.r.by_, .int .i64 mg0.r.e.o.c, .int .i64 mg0.r.e.o.s, .int .i64 mg0.r.e.o.k, .string (txt mg0.r.e.o.acct), .string (txt mg0.r.e.o.peer), .int .i64 mg0.r.e.o.sum, .slice L4.a L4.n L4.c, .int .i64 mg0.r.e.o.per, .int .i64 mg0.r.e.o.hold, .string (txt mg0.r.e.o.note), .bool mg0.r.e.none, .slice D4.a D4.n D4.c] rfl ?_; intro w5 hb5 hm5; have hm5' := ((Mod.refl none_ w4).alloc (.cells #[.int .i64 0, .int .i64 0, .int .i64 0, .int .i64 0, .int .i64 0, .int .i64 0, .int .i64 0, .int .i64 0, .int .i64 0, .int .i64 0, .int .i64 0, .string ⟨#[]⟩, .string ⟨#[]⟩, .int .i64 0, .slice none 0 0, .int .i64 0, .int .i64 0, .string ⟨#[]⟩, .bool false, .slice none 0 0] 40)).in_new (Nat.le_refl _) hm5; have hM5 := Lib.hid (hM4.out.trans hm5'); have s2 : w5.cell? ⟨w4.heap.size, 2, none⟩ = some (.int .i64 0) := hb5.cell_ rfl; clear hm5 hm5' hb5)
        go_ret
        exact ⟨rfl, hM5.out⟩
end Go.Proofs.Ytdekehhmjehicaa
/-
  PostRow's walk. No condition.
-/
namespace Go.Proofs.Ytdekehhmjehicaa
set_option linter.unusedVariables false
set_option linter.unusedSimpArgs false
open Go.RowKit
theorem filter_snoc {xs : List Ms} {j : Nat} {x : Ms} (h : xs[j]? = some x) : (xs.take (j + 1)).filter RtM = (xs.take j).filter RtM ++ if RtM x then [x] else [] := filter_take_succ h
theorem takeL_zero (x : Ms) (xs : List Ms) : takeL (x :: xs) 0 = xs := rfl
theorem rt_to {x : Ms} (h : RtM x = true) : 0 ≤ x.m.to ∧ x.m.to ≤ 6 := (rightM_ends h).2.1
theorem cnt_le (xs : List Ms) : ∀ q, cnt xs q ≤ q * xs.length
  | 0 => by simp [cnt]
  | q + 1 => by
    have h1 := cnt_le xs q
    have h2 := places_len (q : Int) xs 0
    simp only [cnt, Nat.succ_mul]; omega
theorem lookR_drop {own : List Ms} {i : Nat} {x : Ms} (h : own[i]? = some x) : lookR (own.drop i) 0 = some x := by
  unfold lookR; rw [if_pos (by omega)]; simpa using h
theorem takeL_drop {own : List Ms} {i : Nat} {x : Ms} (h : own[i]? = some x) : takeL (own.drop i) 0 = own.drop (i + 1) := by
  obtain ⟨b1, b2⟩ := List.getElem?_eq_some_iff.1 h
  rw [List.drop_eq_getElem_cons b1, takeL_zero]
set_option maxRecDepth 100000 in
set_option maxHeartbeats 8000000 in
theorem postRow_walk (w : World) (A : Option Addr) (N c : Nat) (xs : List Ms) (h : RdM w A N xs) (hE : MsM w xs) (hk : ∀ x ∈ xs, MsOk x) (hN : N ≤ 140737488355328) :
    Calls Try.prog 5 #[.slice A N c] w fun e w' => e = .returned (.bool true) ∧ Mod none_ w w' := by
  have kL := Lib.hid (lives_ok w)
  replace h := Lib.hid h
  replace hE := Lib.hid hE
  replace hk := Lib.hid hk
  go_enter Try.func5, Try.ntmps5
  go_wp2_with fail
  refine kL.out.mono ?_
  rintro e w1 ⟨rfl, hm1⟩
  dsimp only
  have kF := Lib.hid (few_ok w1 A N c xs (Rd.mod0 h.out hm1) (hE.out.mod0 hm1) hk.out hN 40 (by omega))
  replace hm1 := Lib.hid hm1
  go_wp2_with fail
  refine kF.out.mono ?_
  rintro e w2 ⟨A2, m2, c2, rfl, ho2, hf2, hm2⟩
  dsimp only
  have hM2 := Lib.hid (hm1.out.trans hm2)
  have hl2 : m2 ≤ 40 := by
    have h1 := ho2.len
    have h2 : (fewL xs 40).length ≤ 40 := by unfold fewL; simp; omega
    omega
  have hE2 : Hid (MsM w2 (fewL xs 40)) := Lib.hid (fun y hy => by
    unfold fewL at hy
    rw [List.mem_map] at hy
    obtain ⟨x, hx, rfl⟩ := hy
    exact cut_mem ((hE.out x (List.mem_of_mem_take hx)).mod0 hM2.out))
  have hk2 : Hid (∀ y ∈ fewL xs 40, MsOk y) := Lib.hid (fun y hy => by
    unfold fewL at hy
    rw [List.mem_map] at hy
    obtain ⟨x, hx, rfl⟩ := hy
    exact cut_ok (hk.out x (List.mem_of_mem_take hx)))
  generalize fewL xs 40 = ys at *
  have hyl := Lib.hid ho2.len
  replace ho2 := Lib.hid ho2
  clear hm1 hm2 hf2 kF
  go_wp2_with fail
  go_loopw [3, 4] (fun v y wr => ∃ j : Nat, y = .int .i64 j ∧ j ≤ m2 ∧ ∃ B k d, v = .slice B k d ∧ k ≤ j ∧ OwM wr B k d ((ys.take j).filter RtM) ∧ Fresh w2 B ∧ Mod none_ w2 wr) (fun _ y _ => m2 - (intOf y).toNat)
  case atStart => exact ⟨0, rfl, by omega, none, 0, 0, rfl, by omega, Ow.nil _ _ _, (fun a ha => by cases ha), Mod.refl _ _⟩
  case round =>
    obtain ⟨j, rfl, hj, B, k, d, rfl, hkj, ho, hf, hm⟩ := hrel
    by_cases hlt : j < m2
    · obtain ⟨g, o, x, hA, hxm, hx, hrg⟩ := rdm_get (w := wr) (Rd.mod0 (Ow.rd ho2.out) hm) hlt
      subst hA
      unfold msC at hrg
      have hEx := (hE2.out x hxm).mod0 hm
      obtain ⟨q1, q2, q3, q4⟩ := hk2.out x hxm
      have kR := Lib.hid (rightM_ok wr x.m x.L x.D hEx q1 q2 q3 q4)
      have hsn := filter_snoc hx
      clear hEx q3 q4
      replace hm := Lib.hid hm
      replace hxm := Lib.hid hxm
      replace hx := Lib.hid hx
      replace hrg := Lib.hid hrg
      replace ho := Lib.hid ho
      replace hf := Lib.hid hf
      go_wp2_with (refine wpList_load_mid rfl 40 (.tmp 27) rfl g (o + j * 20) rfl _ _ hrg.out Try.underlying40 rfl msg_size ?_)
      with_reducible refine kR.out.mono ?_
      rintro e w3 ⟨rfl, hm3⟩
      dsimp only
      have hM3 := Lib.hid (hm.out.trans hm3)
      have ho3 := Lib.hid (ho.out.mod0 hm3)
      have hrg3 := Lib.hid (rangeAt_mod hrg.out hm3)
      cases hr : rightM x.m with
      | true =>
        rw [show RtM x = true from hr] at hsn
        simp only [if_true] at hsn
        have ho4 := Lib.hid (ho3.out.mod0 ((Mod.refl none_ w3).alloc (.cells #[.int .i64 x.m.frm, .int .i64 x.m.to, .int .i64 x.m.kind, .int .i64 x.m.r.i.r, .int .i64 x.m.r.i.n, .int .i64 x.m.r.bal, .int .i64 x.m.r.st, .int .i64 x.m.r.by_, .int .i64 x.m.r.e.o.c, .int .i64 x.m.r.e.o.s, .int .i64 x.m.r.e.o.k, .string (txt x.m.r.e.o.acct), .string (txt x.m.r.e.o.peer), .int .i64 x.m.r.e.o.sum, .slice x.L.a x.L.n x.L.c, .int .i64 x.m.r.e.o.per, .int .i64 x.m.r.e.o.hold, .string (txt x.m.r.e.o.note), .bool x.m.r.e.none, .slice x.D.a x.D.n x.D.c] 40)))
        have hM4 := Lib.hid (hM3.out.alloc (.cells #[.int .i64 x.m.frm, .int .i64 x.m.to, .int .i64 x.m.kind, .int .i64 x.m.r.i.r, .int .i64 x.m.r.i.n, .int .i64 x.m.r.bal, .int .i64 x.m.r.st, .int .i64 x.m.r.by_, .int .i64 x.m.r.e.o.c, .int .i64 x.m.r.e.o.s, .int .i64 x.m.r.e.o.k, .string (txt x.m.r.e.o.acct), .string (txt x.m.r.e.o.peer), .int .i64 x.m.r.e.o.sum, .slice x.L.a x.L.n x.L.c, .int .i64 x.m.r.e.o.per, .int .i64 x.m.r.e.o.hold, .string (txt x.m.r.e.o.note), .bool x.m.r.e.none, .slice x.D.a x.D.n x.D.c] 40))
        have hone := Lib.hid (rdM_one w3 x)
        replace hsn := Lib.hid hsn
        replace hr := Lib.hid hr
        clear hm3 ho3 hM3 kR
        go_wp2_with (first
          | (refine wpList_load_mid rfl 40 (.tmp 33) rfl g (o + j * 20) rfl _ _ hrg3.out Try.underlying40 rfl msg_size ?_)
          | (at_builtin; go_loud (refine appM rfl (.tmp 30) (.tmp 35) rfl rfl ho4.out rfl hone.out (by omega) ?_; intro A5 c5 w5 ho5 hm5 hA5; replace ho5 := Lib.hid ho5; replace hm5 := Lib.hid hm5; replace hA5 := Lib.hid hA5)))
        go_roundw
        case rel => exact ⟨j + 1, by go_num, by omega, A5, k + 1, c5, rfl, by omega, by rw [hsn.out]; exact ho5.out, Fresh.app hf.out hM4.out.size hA5.out, hM4.out.app hf.out hm5.out⟩
        case measure => simp [intOf]; omega
      | false =>
        rw [show RtM x = false from hr] at hsn
        simp only [Bool.false_eq_true, if_false, List.append_nil] at hsn
        replace hsn := Lib.hid hsn
        replace hr := Lib.hid hr
        clear hm3 kR hrg3
        go_wp2_with fail
        go_roundw
        case rel => exact ⟨j + 1, by go_num, by omega, B, k, d, rfl, by omega, by rw [hsn.out]; exact ho3.out, hf.out, hM3.out⟩
        case measure => simp [intOf]; omega
    · obtain rfl : j = m2 := by omega
      obtain ⟨wf, rfl⟩ : ∃ wf, wf = wr := ⟨_, rfl⟩
      rw [List.take_of_length_le (l := ys) (by rw [hyl.out]; exact Nat.le_refl _)] at ho
      have hol := ho.len
      subst hol
      have hown := Lib.hid ho
      clear ho
      replace hf := Lib.hid hf
      replace hm := Lib.hid hm
      obtain ⟨K, hK⟩ : ∃ K, K = (ys.filter RtM).length := ⟨_, rfl⟩
      have hKj : K ≤ j := by rw [hK, ← hyl.out]; exact List.length_filter_le _ _
      have hown' : Hid (OwM wf B K d (ys.filter RtM)) := Lib.hid (by rw [hK]; exact hown.out)
      rw [← hK]
      have hto : Hid (∀ x ∈ ys.filter RtM, 0 ≤ x.m.to ∧ x.m.to ≤ 6) := Lib.hid (fun x hx => rt_to (List.mem_filter.1 hx).2)
      have hEo : Hid (MsM wf (ys.filter RtM)) := Lib.hid (fun x hx => (hE2.out x (List.mem_filter.1 hx).1).mod0 hm.out)
      have hko : Hid (∀ x ∈ ys.filter RtM, MsOk x) := Lib.hid (fun x hx => hk2.out x (List.mem_filter.1 hx).1)
      replace hK := Lib.hid hK
      clear hown
      go_wp2_with fail
      with_reducible refine (bagNew_ok wf).mono ?_
      rintro e w3 ⟨rfl, hb3, hm3⟩
      dsimp only
      have nb3 := Lib.hid (show NewBag wf w3 wf.heap.size none 0 0 [] from ⟨hb3, hm3, Nat.le_refl _, fun k hk => by obtain ⟨a, ha, _⟩ := hk; cases ha⟩)
      clear hb3 hm3
      generalize hp : wf.heap.size = p at *
      replace hp := Lib.hid hp
      have kP := bagPut_ok w3 p none 0 0 [] nb3.out.st (by omega) A2 j c2 ys (Rd.mod0 (Rd.mod0 (Ow.rd ho2.out) hm.out) nb3.out.mod) ((hE2.out.mod0 hm.out).mod0 nb3.out.mod) hk2.out (by omega)
      unfold PutPost at kP
      have hput : putN (ys.filter RtM).length 0 = K := by rw [← hK.out]; unfold putN; omega
      rw [hput] at kP
      clear hput
      replace kP := Lib.hid kP
      go_wp2_with fail
      with_reducible refine kP.out.mono ?_
      rintro e w4 ⟨A4, c4, rfl, hb4, hm4, hA4⟩
      dsimp only
      have nb4 : NewBag wf w4 p A4 (0 + K) c4 ([] ++ (ys.filter RtM).take K) := nb3.out.step hb4 hm4 hA4
      rw [Nat.zero_add, List.nil_append, List.take_of_length_le (by rw [← hK.out]; exact Nat.le_refl _)] at nb4
      clear hb4 hm4 hA4 kP nb3
      generalize ys.filter RtM = own at *
      replace nb4 := Lib.hid nb4
      have hsub : ((j : Int) - (K : Int) != (j : Int) - (K : Int)) = false := by simp
      go_wp2_with fail
      clear hsub
      go_loopw [6, 7] (fun v y W => ∃ q : Nat, y = .int .i64 q ∧ q ≤ 7 ∧ v = .int .i64 (cnt own q : Nat) ∧ NewBag wf W p A4 K c4 own) (fun _ y _ => 7 - (intOf y).toNat)
      case atStart => exact ⟨0, rfl, by omega, rfl, nb4.out⟩
      case round =>
        obtain ⟨q, rfl, hq7, rfl, nb⟩ := hrel
        by_cases hq : q < 7
        · replace nb := Lib.hid nb
          have hqd : decide ((q : Int) < 7) = true := decide_eq_true (by omega)
          have hcs : Hid (cnt own (q + 1) = cnt own q + (places (q : Int) 0 own).length) := Lib.hid rfl
          go_wp2_with fail
          with_reducible refine (bagFor_ok _ p A4 K c4 own nb.out.st (by omega) (q : Int)).mono ?_
          rintro e w5 ⟨A5, m5, c5, rfl, ho5, hf5, hm5⟩
          dsimp only
          have nb5 := Lib.hid (nb.out.mod0 hm5)
          have hm5l : (places (q : Int) 0 own).length = m5 := by have := ho5.1; rw [ivs_length] at this; omega
          have hm5K := places_len (q : Int) own 0
          rw [nb.out.st.len] at hm5K
          have hcb : cnt own q ≤ 7 * K := by have h1 := cnt_le own q; rw [nb.out.st.len] at h1; exact Nat.le_trans h1 (Nat.mul_le_mul_right K hq7)
          rw [hm5l] at hm5K
          replace ho5 := Lib.hid ho5
          replace hf5 := Lib.hid hf5
          clear hm5 nb
          generalize cnt own q = cq at *
          replace hm5l := Lib.hid hm5l
          go_wp2_with fail
          go_loopw [9] (fun y W => ∃ i : Nat, y = .int .i64 i ∧ i ≤ m5 ∧ Mod none_ w5 W) (fun y _ => m5 - (intOf y).toNat)
          case atStart => exact ⟨0, rfl, by omega, Mod.refl _ _⟩
          case round =>
            obtain ⟨i, rfl, hi, hm⟩ := hrel
            by_cases hi2 : i < m5
            · obtain ⟨g, o, v, hA, hv, hcell⟩ := rdi_at (Rd.mod0 (Ow.rd ho5.out) hm) hi2
              subst hA
              obtain ⟨k, hvk, x, hx, hxt⟩ := places_at _ _ _ _ (List.mem_of_getElem? hv)
              rw [Nat.zero_add] at hvk
              subst hvk
              have nb6 := Lib.hid (nb5.out.mod0 hm)
              have hlk : Hid (lookR own (k : Int) = some x) := Lib.hid (by unfold lookR; rw [if_pos (by omega)]; simpa using hx)
              have hxx := Lib.hid hx
              replace hxt := Lib.hid hxt
              clear hx hlk
              have kLk := Lib.hid (bagLook_ok _ p A4 K c4 own nb6.out.st (k : Int))
              replace hm := Lib.hid hm
              replace hv := Lib.hid hv
              go_wp2_with fail
              replace hcell := Lib.hid hcell
              with_reducible refine kLk.out.mono ?_
              rintro e w7 ⟨v7, rfl, hv7, hm7⟩
              have hv8 : v7 = .tuple #[.agg #[.int .i64 x.m.frm, .int .i64 x.m.to, .int .i64 x.m.kind, .int .i64 x.m.r.i.r, .int .i64 x.m.r.i.n, .int .i64 x.m.r.bal, .int .i64 x.m.r.st, .int .i64 x.m.r.by_, .int .i64 x.m.r.e.o.c, .int .i64 x.m.r.e.o.s, .int .i64 x.m.r.e.o.k, .string (txt x.m.r.e.o.acct), .string (txt x.m.r.e.o.peer), .int .i64 x.m.r.e.o.sum, .slice x.L.a x.L.n x.L.c, .int .i64 x.m.r.e.o.per, .int .i64 x.m.r.e.o.hold, .string (txt x.m.r.e.o.note), .bool x.m.r.e.none, .slice x.D.a x.D.n x.D.c], .bool true] := by
                have hlk : lookR own (k : Int) = some x := by unfold lookR; rw [if_pos (by omega)]; simpa using hxx.out
                rcases hv7 with ⟨x', hx', rfl⟩ | ⟨hx', _⟩
                · rw [hlk] at hx'; cases hx'; rfl
                · rw [hlk] at hx'; cases hx'
              subst hv8
              dsimp only
              have hz := Lib.hid (Blk.new w7 40 #[.int .i64 0, .int .i64 0, .int .i64 0, .int .i64 0, .int .i64 0, .int .i64 0, .int .i64 0, .int .i64 0, .int .i64 0, .int .i64 0, .int .i64 0, .string ⟨#[]⟩, .string ⟨#[]⟩, .int .i64 0, .slice none 0 0, .int .i64 0, .int .i64 0, .string ⟨#[]⟩, .bool false, .slice none 0 0])
              clear hv7 kLk nb6 hxx
              replace hm7 := Lib.hid hm7
              have hM7 := Lib.hid (hm.out.trans hm7.out)
              have hcell7 := Lib.hid (hm7.out.cell_some hcell.out (fun h => h))
              clear hcell
              go_upto_region 23 with (refine wpList_store_blk rfl 40 (.tmp 10) (.tmp 71) rfl w7.heap.size 0 _ rfl rfl hz.out (by simp) msg_size (by rfl) #[.int .i64 x.m.frm, .int .i64 x.m.to, .int .i64 x.m.kind, .int .i64 x.m.r.i.r, .int .i64 x.m.r.i.n, .int .i64 x.m.r.bal, .int .i64 x.m.r.st, .int .i64 x.m.r.by_, .int .i64 x.m.r.e.o.c, .int .i64 x.m.r.e.o.s, .int .i64 x.m.r.e.o.k, .string (txt x.m.r.e.o.acct), .string (txt x.m.r.e.o.peer), .int .i64 x.m.r.e.o.sum, .slice x.L.a x.L.n x.L.c, .int .i64 x.m.r.e.o.per, .int .i64 x.m.r.e.o.hold, .string (txt x.m.r.e.o.note), .bool x.m.r.e.none, .slice x.D.a x.D.n x.D.c] rfl ?_; intro w8 hb8 hm8)
              have hm8' := ((Mod.refl none_ w7).alloc (.cells #[.int .i64 0, .int .i64 0, .int .i64 0, .int .i64 0, .int .i64 0, .int .i64 0, .int .i64 0, .int .i64 0, .int .i64 0, .int .i64 0, .int .i64 0, .string ⟨#[]⟩, .string ⟨#[]⟩, .int .i64 0, .slice none 0 0, .int .i64 0, .int .i64 0, .string ⟨#[]⟩, .bool false, .slice none 0 0] 40)).in_new (Nat.le_refl _) hm8
              have hM8 := Lib.hid (hM7.out.trans hm8')
              have hcell8 := hm8'.cell_some hcell7.out (fun h => h)
              have hto8 : w8.cell? ⟨w7.heap.size, 1, none⟩ = some (.int .i64 (q : Int)) := hxt.out ▸ hb8.cell_ rfl
              have hs0 : ((q : Int) != (q : Int)) = false := by simp
              clear hm8 hm8' hM7 hz hb8
              by_cases hi0 : i = 0
              · have hs1 : decide (0 < i) = false := by simp [hi0]
                replace hi0 := Lib.hid hi0
                clear hcell7 hxt
                go_quiet (fail)
                go_wp2_with fail
                go_roundw
                case rel => exact ⟨i + 1, by go_num, by omega, hM8.out.drewN _⟩
                case measure => simp [intOf]; omega
              · obtain ⟨r, rfl⟩ : ∃ r, i = r + 1 := ⟨i - 1, by omega⟩
                obtain ⟨g', o', v', hA', hv', hcell'⟩ := rdi_at (j := r) (Rd.mod0 (Ow.rd ho5.out) hM8.out) (by omega)
                cases hA'
                have hlt : v' < (k : Int) := by
                  have hpw := places_up (q : Int) own 0
                  rw [List.pairwise_iff_getElem] at hpw
                  obtain ⟨b1, b2⟩ := List.getElem?_eq_some_iff.1 hv'
                  obtain ⟨b3, b4⟩ := List.getElem?_eq_some_iff.1 hv.out
                  have := hpw r (r + 1) b1 b3 (by omega)
                  rw [b2, b4] at this
                  exact this
                have hs1 : decide (0 < ((r + 1 : Nat) : Int)) = true := by simp
                have hs2 : ((r + 1 : Nat) : Int) - 1 = (r : Int) := by omega
                have hs3 : decide ((k : Int) ≤ v') = false := by simp; omega
                clear hcell7 hxt
                replace hv' := Lib.hid hv'
                go_quiet (fail)
                go_wp2_with fail
                go_roundw
                case rel => exact ⟨r + 1 + 1, by go_num, by omega, hM8.out.drewN _⟩
                case measure => simp [intOf]; omega
            · obtain rfl : i = m5 := by omega
              have nb6 := Lib.hid (nb5.out.mod0 hm)
              replace hm := Lib.hid hm
              go_wp2_with fail
              go_roundw
              case rel => exact ⟨q + 1, by go_num, by omega, by rw [hcs.out, hm5l.out]; rfl, nb6.out⟩
              case measure => simp [intOf]; omega
        · have hq7' : q = 7 := by omega
          have hcq : cnt own q = K := by rw [hq7', cnt_all own hto.out, nb.st.len]
          rw [hcq]
          have hqd : decide ((q : Int) < 7) = false := decide_eq_false (by omega)
          clear hcq hq
          replace hq7' := Lib.hid hq7'
          have nb7 := Lib.hid nb
          clear nb nb4
          go_wp2_with fail
          go_loopw [12] (fun y W => ∃ i n' : Nat, y = .int .i64 i ∧ i ≤ K ∧ NewBag wf W p A4 n' c4 (own.drop i)) (fun y _ => K - (intOf y).toNat)
          case atStart => exact ⟨0, K, rfl, by omega, nb7.out⟩
          case round =>
            obtain ⟨i, n', rfl, hi, nb⟩ := hrel
            have hn' := nb.st.len
            have hoK := hown'.out.len
            rw [List.length_drop, hoK] at hn'
            by_cases hi2 : i < K
            · obtain ⟨g, o, x, hA, hxm, hx, hrg⟩ := rdm_get (Ow.rd hown'.out) hi2
              subst hA
              unfold msC at hrg
              have hlk := Lib.hid (lookR_drop hx)
              have htk := takeL_drop hx
              have hEx := Lib.hid (hEo.out x hxm)
              obtain ⟨q1, q2, -, -⟩ := hko.out x hxm
              have kT := bagTake_ok _ p A4 n' c4 (own.drop i) nb.st (by omega) 0
              rw [htk] at kT
              clear htk hn' hoK
              replace kT := Lib.hid kT
              replace nb := Lib.hid nb
              replace hrg := Lib.hid hrg
              replace hxm := Lib.hid hxm
              replace hx := Lib.hid hx
              go_wp2_with fail
              with_reducible refine kT.out.mono ?_
              rintro e w5 ⟨v5, n5, rfl, hv5, hb5, hn5, hm5⟩
              have hv6 : v5 = .tuple #[.agg #[.int .i64 x.m.frm, .int .i64 x.m.to, .int .i64 x.m.kind, .int .i64 x.m.r.i.r, .int .i64 x.m.r.i.n, .int .i64 x.m.r.bal, .int .i64 x.m.r.st, .int .i64 x.m.r.by_, .int .i64 x.m.r.e.o.c, .int .i64 x.m.r.e.o.s, .int .i64 x.m.r.e.o.k, .string (txt x.m.r.e.o.acct), .string (txt x.m.r.e.o.peer), .int .i64 x.m.r.e.o.sum, .slice x.L.a x.L.n x.L.c, .int .i64 x.m.r.e.o.per, .int .i64 x.m.r.e.o.hold, .string (txt x.m.r.e.o.note), .bool x.m.r.e.none, .slice x.D.a x.D.n x.D.c], .bool true] := by
                rcases hv5 with ⟨x', hx', rfl⟩ | ⟨hx', _⟩
                · rw [hlk.out] at hx'; cases hx'; rfl
                · rw [hlk.out] at hx'; cases hx'
              subst hv6
              dsimp only
              have nb5 : Hid (NewBag _ w5 p A4 n5 c4 (own.drop (i + 1))) := Lib.hid (nb.out.step hb5 hm5 (fun k hk => .inl hk))
              have hz := Lib.hid (Blk.new w5 40 #[.int .i64 0, .int .i64 0, .int .i64 0, .int .i64 0, .int .i64 0, .int .i64 0, .int .i64 0, .int .i64 0, .int .i64 0, .int .i64 0, .int .i64 0, .string ⟨#[]⟩, .string ⟨#[]⟩, .int .i64 0, .slice none 0 0, .int .i64 0, .int .i64 0, .string ⟨#[]⟩, .bool false, .slice none 0 0])
              clear hv5 hb5 hn5 hm5 kT hlk
              go_upto_region 29 with (refine wpList_store_blk rfl 40 (.tmp 13) (.tmp 106) rfl w5.heap.size 0 _ rfl rfl hz.out (by simp) msg_size (by rfl) #[.int .i64 x.m.frm, .int .i64 x.m.to, .int .i64 x.m.kind, .int .i64 x.m.r.i.r, .int .i64 x.m.r.i.n, .int .i64 x.m.r.bal, .int .i64 x.m.r.st, .int .i64 x.m.r.by_, .int .i64 x.m.r.e.o.c, .int .i64 x.m.r.e.o.s, .int .i64 x.m.r.e.o.k, .string (txt x.m.r.e.o.acct), .string (txt x.m.r.e.o.peer), .int .i64 x.m.r.e.o.sum, .slice x.L.a x.L.n x.L.c, .int .i64 x.m.r.e.o.per, .int .i64 x.m.r.e.o.hold, .string (txt x.m.r.e.o.note), .bool x.m.r.e.none, .slice x.D.a x.D.n x.D.c] rfl ?_; intro w8 hb8 hm8)
              have hm8' := ((Mod.refl none_ w5).alloc (.cells #[.int .i64 0, .int .i64 0, .int .i64 0, .int .i64 0, .int .i64 0, .int .i64 0, .int .i64 0, .int .i64 0, .int .i64 0, .int .i64 0, .int .i64 0, .string ⟨#[]⟩, .string ⟨#[]⟩, .int .i64 0, .slice none 0 0, .int .i64 0, .int .i64 0, .string ⟨#[]⟩, .bool false, .slice none 0 0] 40)).in_new (Nat.le_refl _) hm8
              have nb8 := Lib.hid (nb5.out.mod0 hm8'.drew)
              have hS8 : Blk w8.drew w5.heap.size 40 #[.int .i64 x.m.frm, .int .i64 x.m.to, .int .i64 x.m.kind, .int .i64 x.m.r.i.r, .int .i64 x.m.r.i.n, .int .i64 x.m.r.bal, .int .i64 x.m.r.st, .int .i64 x.m.r.by_, .int .i64 x.m.r.e.o.c, .int .i64 x.m.r.e.o.s, .int .i64 x.m.r.e.o.k, .string (txt x.m.r.e.o.acct), .string (txt x.m.r.e.o.peer), .int .i64 x.m.r.e.o.sum, .slice x.L.a x.L.n x.L.c, .int .i64 x.m.r.e.o.per, .int .i64 x.m.r.e.o.hold, .string (txt x.m.r.e.o.note), .bool x.m.r.e.none, .slice x.D.a x.D.n x.D.c] ∧ w8.drew.rangeAt g (o + i * 20) [.int .i64 x.m.frm, .int .i64 x.m.to, .int .i64 x.m.kind, .int .i64 x.m.r.i.r, .int .i64 x.m.r.i.n, .int .i64 x.m.r.bal, .int .i64 x.m.r.st, .int .i64 x.m.r.by_, .int .i64 x.m.r.e.o.c, .int .i64 x.m.r.e.o.s, .int .i64 x.m.r.e.o.k, .string (txt x.m.r.e.o.acct), .string (txt x.m.r.e.o.peer), .int .i64 x.m.r.e.o.sum, .slice x.L.a x.L.n x.L.c, .int .i64 x.m.r.e.o.per, .int .i64 x.m.r.e.o.hold, .string (txt x.m.r.e.o.note), .bool x.m.r.e.none, .slice x.D.a x.D.n x.D.c] := ⟨hb8.drew, rangeAt_mod hrg.out nb8.out.mod⟩
              have hE8 := Lib.hid (hEx.out.mod0 nb8.out.mod)
              have kS := sameM_ok w8.drew x.m x.m x.L x.D x.L x.D hE8.out hE8.out q1 q2 q1 q2
              rw [decide_eq_true (rfl : x.m = x.m)] at kS
              replace kS := Lib.hid kS
              clear hm8 hm8' nb5 hz hb8
              refine wp_region_held_drew (S := fun W => Blk W w5.heap.size 40 #[.int .i64 x.m.frm, .int .i64 x.m.to, .int .i64 x.m.kind, .int .i64 x.m.r.i.r, .int .i64 x.m.r.i.n, .int .i64 x.m.r.bal, .int .i64 x.m.r.st, .int .i64 x.m.r.by_, .int .i64 x.m.r.e.o.c, .int .i64 x.m.r.e.o.s, .int .i64 x.m.r.e.o.k, .string (txt x.m.r.e.o.acct), .string (txt x.m.r.e.o.peer), .int .i64 x.m.r.e.o.sum, .slice x.L.a x.L.n x.L.c, .int .i64 x.m.r.e.o.per, .int .i64 x.m.r.e.o.hold, .string (txt x.m.r.e.o.note), .bool x.m.r.e.none, .slice x.D.a x.D.n x.D.c] ∧ W.rangeAt g (o + i * 20) [.int .i64 x.m.frm, .int .i64 x.m.to, .int .i64 x.m.kind, .int .i64 x.m.r.i.r, .int .i64 x.m.r.i.n, .int .i64 x.m.r.bal, .int .i64 x.m.r.st, .int .i64 x.m.r.by_, .int .i64 x.m.r.e.o.c, .int .i64 x.m.r.e.o.s, .int .i64 x.m.r.e.o.k, .string (txt x.m.r.e.o.acct), .string (txt x.m.r.e.o.peer), .int .i64 x.m.r.e.o.sum, .slice x.L.a x.L.n x.L.c, .int .i64 x.m.r.e.o.per, .int .i64 x.m.r.e.o.hold, .string (txt x.m.r.e.o.note), .bool x.m.r.e.none, .slice x.D.a x.D.n x.D.c]) (by kernel_rfl) hS8 (fun hHeld => ?_)
              refine wpAnyH_take (i := 0) (v := ?_) rfl (by kernel_rfl) (by kernel_rfl) (by kernel_rfl) (fun _ _ _ h => h) (Or.inl ⟨by rfl, ?_⟩) (by assumption) ?_
              rotate_left
              · intro W hSw; (try dsimp only at hSw); go_simp; (try with_reducible rfl)
              try simp only [Act.put, List.getElem_toArray, List.getElem_cons_zero, List.getElem_cons_succ, List.setIfInBounds_toArray, List.set_cons_zero, List.set_cons_succ]
              refine wpAnyH_take (i := 1) (v := ?_) rfl (by kernel_rfl) (by kernel_rfl) (by kernel_rfl) (fun _ _ _ h => h) (Or.inl ⟨by rfl, ?_⟩) (by assumption) ?_
              rotate_left
              · intro W hSw; (try dsimp only at hSw); go_simp; (try with_reducible rfl)
              try simp only [Act.put, List.getElem_toArray, List.getElem_cons_zero, List.getElem_cons_succ, List.setIfInBounds_toArray, List.set_cons_zero, List.set_cons_succ]
              refine wpAnyH_take (i := 2) (v := ?_) rfl (by kernel_rfl) (by kernel_rfl) (by kernel_rfl) (fun _ _ _ h => h) (Or.inl ⟨by rfl, ?_⟩) (by assumption) ?_
              rotate_left
              · intro W hSw; (try dsimp only at hSw); go_simp; (try with_reducible rfl)
              try simp only [Act.put, List.getElem_toArray, List.getElem_cons_zero, List.getElem_cons_succ, List.setIfInBounds_toArray, List.set_cons_zero, List.set_cons_succ]
              refine wpAnyH_take (i := 3) rfl (by kernel_rfl) (by kernel_rfl) (by kernel_rfl) (fun _ _ _ h => h) (yieldsIf_load_mid (by rfl) 40 (.tmp 13) rfl w5.heap.size 0 rfl [.int .i64 x.m.frm, .int .i64 x.m.to, .int .i64 x.m.kind, .int .i64 x.m.r.i.r, .int .i64 x.m.r.i.n, .int .i64 x.m.r.bal, .int .i64 x.m.r.st, .int .i64 x.m.r.by_, .int .i64 x.m.r.e.o.c, .int .i64 x.m.r.e.o.s, .int .i64 x.m.r.e.o.k, .string (txt x.m.r.e.o.acct), .string (txt x.m.r.e.o.peer), .int .i64 x.m.r.e.o.sum, .slice x.L.a x.L.n x.L.c, .int .i64 x.m.r.e.o.per, .int .i64 x.m.r.e.o.hold, .string (txt x.m.r.e.o.note), .bool x.m.r.e.none, .slice x.D.a x.D.n x.D.c] _ (fun W hW => Blk.range hW.1 0 _ rfl) Try.underlying40 rfl msg_size) (by assumption) ?_
              try simp only [Act.put, List.getElem_toArray, List.getElem_cons_zero, List.getElem_cons_succ, List.setIfInBounds_toArray, List.set_cons_zero, List.set_cons_succ]
              refine wpAnyH_take (i := 4) (v := ?_) rfl (by kernel_rfl) (by kernel_rfl) (by kernel_rfl) (fun _ _ _ h => h) (Or.inl ⟨by rfl, ?_⟩) (by assumption) ?_
              rotate_left
              · intro W hSw; (try dsimp only at hSw); go_simp; (try with_reducible rfl)
              try simp only [Act.put, List.getElem_toArray, List.getElem_cons_zero, List.getElem_cons_succ, List.setIfInBounds_toArray, List.set_cons_zero, List.set_cons_succ]
              refine wpAnyH_take (i := 5) (v := ?_) rfl (by kernel_rfl) (by kernel_rfl) (by kernel_rfl) (fun _ _ _ h => h) (Or.inl ⟨by rfl, ?_⟩) (by assumption) ?_
              rotate_left
              · intro W hSw; (try dsimp only at hSw); go_simp; (try with_reducible rfl)
              try simp only [Act.put, List.getElem_toArray, List.getElem_cons_zero, List.getElem_cons_succ, List.setIfInBounds_toArray, List.set_cons_zero, List.set_cons_succ]
              refine wpAnyH_take (i := 6) (v := ?_) rfl (by kernel_rfl) (by kernel_rfl) (by kernel_rfl) (fun _ _ _ h => h) (Or.inl ⟨by rfl, ?_⟩) (by assumption) ?_
              rotate_left
              · intro W hSw; (try dsimp only at hSw); go_simp; (try with_reducible rfl)
              try simp only [Act.put, List.getElem_toArray, List.getElem_cons_zero, List.getElem_cons_succ, List.setIfInBounds_toArray, List.set_cons_zero, List.set_cons_succ]
              refine wpAnyH_take (i := 7) rfl (by kernel_rfl) (by kernel_rfl) (by kernel_rfl) (fun _ _ _ h => h) (yieldsIf_load_mid (by rfl) 40 (.tmp 114) rfl g (o + i * 20) rfl [.int .i64 x.m.frm, .int .i64 x.m.to, .int .i64 x.m.kind, .int .i64 x.m.r.i.r, .int .i64 x.m.r.i.n, .int .i64 x.m.r.bal, .int .i64 x.m.r.st, .int .i64 x.m.r.by_, .int .i64 x.m.r.e.o.c, .int .i64 x.m.r.e.o.s, .int .i64 x.m.r.e.o.k, .string (txt x.m.r.e.o.acct), .string (txt x.m.r.e.o.peer), .int .i64 x.m.r.e.o.sum, .slice x.L.a x.L.n x.L.c, .int .i64 x.m.r.e.o.per, .int .i64 x.m.r.e.o.hold, .string (txt x.m.r.e.o.note), .bool x.m.r.e.none, .slice x.D.a x.D.n x.D.c] _ (fun W hW => hW.2) Try.underlying40 rfl msg_size) (by assumption) ?_
              try simp only [Act.put, List.getElem_toArray, List.getElem_cons_zero, List.getElem_cons_succ, List.setIfInBounds_toArray, List.set_cons_zero, List.set_cons_succ]
              refine wpAnyH_ready (rs := [8]) (by kernel_rfl) (by simp) ?_
              refine AllReadyH.cons rfl (fun K hK => ?_) AllReadyH.nil
              go_simp
              (with_reducible refine kS.out.mono ?_); rintro e w9 ⟨rfl, hm9⟩; dsimp only
              have hS9 : Blk w9 w5.heap.size 40 #[.int .i64 x.m.frm, .int .i64 x.m.to, .int .i64 x.m.kind, .int .i64 x.m.r.i.r, .int .i64 x.m.r.i.n, .int .i64 x.m.r.bal, .int .i64 x.m.r.st, .int .i64 x.m.r.by_, .int .i64 x.m.r.e.o.c, .int .i64 x.m.r.e.o.s, .int .i64 x.m.r.e.o.k, .string (txt x.m.r.e.o.acct), .string (txt x.m.r.e.o.peer), .int .i64 x.m.r.e.o.sum, .slice x.L.a x.L.n x.L.c, .int .i64 x.m.r.e.o.per, .int .i64 x.m.r.e.o.hold, .string (txt x.m.r.e.o.note), .bool x.m.r.e.none, .slice x.D.a x.D.n x.D.c] ∧ w9.rangeAt g (o + i * 20) [.int .i64 x.m.frm, .int .i64 x.m.to, .int .i64 x.m.kind, .int .i64 x.m.r.i.r, .int .i64 x.m.r.i.n, .int .i64 x.m.r.bal, .int .i64 x.m.r.st, .int .i64 x.m.r.by_, .int .i64 x.m.r.e.o.c, .int .i64 x.m.r.e.o.s, .int .i64 x.m.r.e.o.k, .string (txt x.m.r.e.o.acct), .string (txt x.m.r.e.o.peer), .int .i64 x.m.r.e.o.sum, .slice x.L.a x.L.n x.L.c, .int .i64 x.m.r.e.o.per, .int .i64 x.m.r.e.o.hold, .string (txt x.m.r.e.o.note), .bool x.m.r.e.none, .slice x.D.a x.D.n x.D.c] := ⟨hS8.1.mod hm9 (fun h => h), rangeAt_mod hS8.2 hm9⟩
              have nb9 := Lib.hid (nb8.out.mod0 hm9)
              clear hm9 nb8
              go_wp2_with fail
              refine hK.out _ _ (hS9) (fun hHeld => ?_)
              clear hK K
              try simp only [Act.put, List.getElem_toArray, List.getElem_cons_zero, List.getElem_cons_succ, List.setIfInBounds_toArray, List.set_cons_zero, List.set_cons_succ]
              refine wpAnyH_take (i := 9) (v := ?_) rfl (by kernel_rfl) (by kernel_rfl) (by kernel_rfl) (fun _ _ _ h => h) (Or.inl ⟨by rfl, ?_⟩) (by assumption) ?_
              rotate_left
              · intro W hSw; (try dsimp only at hSw); go_simp; (try with_reducible rfl)
              try simp only [Act.put, List.getElem_toArray, List.getElem_cons_zero, List.getElem_cons_succ, List.setIfInBounds_toArray, List.set_cons_zero, List.set_cons_succ]
              refine wpAnyH_take (i := 10) (v := ?_) rfl (by kernel_rfl) (by kernel_rfl) (by kernel_rfl) (fun _ _ _ h => h) (Or.inl ⟨by rfl, ?_⟩) (by assumption) ?_
              rotate_left
              · intro W hSw; (try dsimp only at hSw); go_simp; (try with_reducible rfl)
              try simp only [Act.put, List.getElem_toArray, List.getElem_cons_zero, List.getElem_cons_succ, List.setIfInBounds_toArray, List.set_cons_zero, List.set_cons_succ]
              refine wpAnyH_done (by kernel_rfl) ?_ _
              clear hHeld hS8 hS9
              go_wp2_with fail
              go_roundw
              case rel => exact ⟨i + 1, n5, by go_num, by omega, nb9.out⟩
              case measure => simp [intOf]; omega
            · obtain rfl : i = K := by omega
              have hn0 : n' = 0 := by omega
              subst hn0
              have nb6 := Lib.hid nb
              clear hn' nb
              go_wp2_with fail
              with_reducible refine (bagLen_ok _ p A4 0 c4 _ nb6.out.st).mono ?_
              rintro e w9 ⟨rfl, rfl⟩
              dsimp only
              go_wp2_with fail
              go_ret
              exact ⟨rfl, hM2.out.trans (hm.out.trans nb6.out.mod)⟩
end Go.Proofs.Ytdekehhmjehicaa
