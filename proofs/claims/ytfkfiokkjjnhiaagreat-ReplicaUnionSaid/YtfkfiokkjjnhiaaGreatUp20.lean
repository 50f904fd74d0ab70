import Derived.Test.YtfkfiokkjjnhiaaGreatUp19
import Derived.StillTailTactics
import Derived.Deep.LoopGhost
set_option linter.unusedVariables false
set_option linter.unusedSimpArgs false
set_option maxHeartbeats 16000000
namespace Go.Proofs.YtfkfiokkjjnhiaaGreat.Kn
open Go.RowKit
def stkLen (w : World) (p : Nat) : Nat := match w.cell? ⟨p, 4, none⟩ with | some (.slice _ n _) => n | _ => 0
theorem Fin.len {w : World} {B : Fin'} {A : Option Addr} {n c : Nat} {T : Option Addr} {d : Nat} {S : KS} (h : Fin w B A n c T d S) : stkLen w B.p = S.stk.length := by
 unfold stkLen
 rw [h.blk.cell_ (i := 4) rfl]; rfl
def LvF (B : Fin') (q : Nat) : Nat → Prop := fun k => k = B.p ∨ k = B.O ∨ k = B.K ∨ k = q
theorem popK_on (S : KS) (A A' C : List Nat) (k : Nat) : (popK S A' (k :: C)).on = upd (popK S A C).on k false := by
 funext v
 show (if v ∈ k :: C then false else S.on v) = upd (fun v => if v ∈ C then false else S.on v) k false v
 by_cases e : v = k
 ·subst e; rw [upd_self]; simp
 ·rw [upd_ne _ _ e]; simp [e]
theorem popK_knot (S : KS) (A A' C : List Nat) (k : Nat) : (popK S A' (k :: C)).knot = upd (popK S A C).knot k (S.id : Int) := by
 funext v
 show (if v ∈ k :: C then (S.id : Int) else S.knot v) = upd (fun v => if v ∈ C then (S.id : Int) else S.knot v) k (S.id : Int) v
 by_cases e : v = k
 ·subst e; rw [upd_self]; simp
 ·rw [upd_ne _ _ e]; simp [e]
section
variable (w : World) (B : Fin') (A : Option Addr) (n c : Nat) (T : Option Addr) (d : Nat) (S : KS)
set_option maxRecDepth 100000
theorem leave_no (h : Fin w B A n c T d S) (i : Nat) (hi : i < n) (hn : n ≤ 1000000) (q : Nat) (hl : S.low i ≠ S.num i) :
  Calls Tryz.prog 264 #[.pointer (some ⟨B.p, 0, none⟩), .int .i64 (i : Int), .pointer (some ⟨q, 0, none⟩)] w fun e w' => e = .returned (.tuple #[]) ∧ ∃ k, w' = w.drewN k := by
 obtain ⟨h1, h2, h3, h4, h5, h6, h7, h8, h9, h10, h11, h12⟩ := h
 have y1 := h1.cell_ (i := 1) rfl
 have y2 := h1.cell_ (i := 2) rfl
 have q1 := h2.cell_ (rowI_get S.num hi)
 have q2 := h3.cell_ (rowI_get S.low hi)
 obtain ⟨p, bN, bL, bO, bK⟩ := B
 dsimp only at *
 have hd : (S.low i != S.num i) = true := by simpa using hl
 generalize S.low i = lo at *
 generalize S.num i = nu at *
 replace h1 := zH h1
 replace h2 := zH h2
 replace h3 := zH h3
 replace h4 := zH h4
 replace h5 := zH h5
 replace h6 := zH h6
 replace h10 := zH h10
 replace h11 := zH h11
 replace h12 := zH h12
 replace hl := zH hl
 go_enter Tryz.func264, Tryz.ntmps264
 go_wp2_with (go_quiet (fail))
 refine bodyPost_ret (results_none rfl _ _ _) rfl ?_
 exact ⟨rfl, _, rfl⟩
theorem Fin.mod0 {w w' : World} {B : Fin'} {A : Option Addr} {n c : Nat} {T : Option Addr} {d : Nat} {S : KS} (h : Fin w B A n c T d S) (hm : Mod none_ w w') : Fin w' B A n c T d S :=
 ⟨h.blk.mod hm (fun h => h), h.num.mod hm (fun h => h), h.low.mod hm (fun h => h), h.on.mod hm (fun h => h), h.knot.mod hm (fun h => h), Ow.mod0 h.stk hm, h.nl, h.nk, h.lk, h.tn, h.tl, h.tk⟩
theorem Fin.mod {F : Nat → Prop} {w w' : World} {B : Fin'} {A : Option Addr} {n c : Nat} {T : Option Addr} {d : Nat} {S : KS} (h : Fin w B A n c T d S) (hm : Mod F w w') (h1 : ¬ F B.p) (h2 : ¬ F B.N) (h3 : ¬ F B.L) (h4 : ¬ F B.O) (h5 : ¬ F B.K) (h6 : ∀ k, fp T k → ¬ F k) : Fin w' B A n c T d S :=
 ⟨h.blk.mod hm h1, h.num.mod hm h2, h.low.mod hm h3, h.on.mod hm h4, h.knot.mod hm h5, Ow.mod h.stk hm h6, h.nl, h.nk, h.lk, h.tn, h.tl, h.tk⟩
theorem pop_mem {wr : World} {B : Fin'} {A : Option Addr} {n c : Nat} {T : Option Addr} {d : Nat} {S : KS} {X C : List Nat} {k xl cn : Nat} (hF : Fin wr B A n c T d (popK S (X ++ [k]) C)) (hxl : X.length = xl) (hcn : S.cnt + C.length = cn) :
  Fin ((((wr.setCell ⟨B.p, 4, none⟩ (.slice T xl d)).setCell ⟨B.p, 6, none⟩ (.int .i64 ((cn : Int) + 1))).setCell ⟨B.O, k, none⟩ (.bool false)).setCell ⟨B.K, k, none⟩ (.int .i64 (S.id : Int))) B A n c T d (popK S X (k :: C)) := by
 subst hxl hcn
 have pN : B.p ≠ B.N := hF.blk.ne_ hF.num (by decide)
 have pL : B.p ≠ B.L := hF.blk.ne_ hF.low (by decide)
 have pO : B.p ≠ B.O := hF.blk.ne_ hF.on (by decide)
 have pK : B.p ≠ B.K := hF.blk.ne_ hF.knot (by decide)
 have oN : B.O ≠ B.N := hF.on.ne_ hF.num (by decide)
 have oL : B.O ≠ B.L := hF.on.ne_ hF.low (by decide)
 have oK : B.O ≠ B.K := hF.on.ne_ hF.knot (by decide)
 have hTp : ¬ fp T B.p := Ow.ne_blk hF.stk hF.blk (by decide)
 have hTo : ¬ fp T B.O := Ow.ne_blk hF.stk hF.on (by decide)
 have ex : (popK S X (k :: C)).stk.length = X.length := rfl
 have ec : ((popK S X (k :: C)).cnt : Int) = ((S.cnt + C.length : Nat) : Int) + 1 := by
  show ((S.cnt + (k :: C).length : Nat) : Int) = _
  simp; omega
 have far : ∀ {g : Nat} {t : TypeId} {cs : Array Value}, Blk wr g t cs → g ≠ B.p → g ≠ B.O → g ≠ B.K → Blk ((((wr.setCell ⟨B.p, 4, none⟩ (.slice T X.length d)).setCell ⟨B.p, 6, none⟩ (.int .i64 (((S.cnt + C.length : Nat) : Int) + 1))).setCell ⟨B.O, k, none⟩ (.bool false)).setCell ⟨B.K, k, none⟩ (.int .i64 (S.id : Int))) g t cs :=
  fun h h1 h2 h3 => (((h.far (p := ⟨B.p, 4, none⟩) h1 _).far (p := ⟨B.p, 6, none⟩) h1 _).far (p := ⟨B.O, k, none⟩) h2 _).far (p := ⟨B.K, k, none⟩) h3 _
 refine ⟨?_, far hF.num pN.symm oN.symm hF.nk, far hF.low pL.symm oL.symm hF.lk, ?_, ?_, ?_, hF.nl, hF.nk, hF.lk, hF.tn, hF.tl, hF.tk⟩
 ·have := (((hF.blk.set_ 4 (.slice T X.length d)).set_ 6 (.int .i64 (((S.cnt + C.length : Nat) : Int) + 1))).far (p := ⟨B.O, k, none⟩) pO (.bool false)).far (p := ⟨B.K, k, none⟩) pK (.int .i64 (S.id : Int))
  rw [ex, ec]
  simpa using this
 ·have := (((hF.on.far (p := ⟨B.p, 4, none⟩) pO.symm (.slice T X.length d)).far (p := ⟨B.p, 6, none⟩) pO.symm (.int .i64 (((S.cnt + C.length : Nat) : Int) + 1))).set_ k (.bool false)).far (p := ⟨B.K, k, none⟩) oK (.int .i64 (S.id : Int))
  rw [rowT_set] at this
  rw [popK_on S (X ++ [k]) X C k]
  exact this
 ·have := (((hF.knot.far (p := ⟨B.p, 4, none⟩) pK.symm (.slice T X.length d)).far (p := ⟨B.p, 6, none⟩) pK.symm (.int .i64 (((S.cnt + C.length : Nat) : Int) + 1))).far (p := ⟨B.O, k, none⟩) oK.symm (.bool false)).set_ k (.int .i64 (S.id : Int))
  rw [rowI_set] at this
  rw [popK_knot S (X ++ [k]) X C k]
  exact this
 ·have hm : Mod (fun j => j = B.p ∨ j = B.O ∨ j = B.K) wr ((((wr.setCell ⟨B.p, 4, none⟩ (.slice T X.length d)).setCell ⟨B.p, 6, none⟩ (.int .i64 (((S.cnt + C.length : Nat) : Int) + 1))).setCell ⟨B.O, k, none⟩ (.bool false)).setCell ⟨B.K, k, none⟩ (.int .i64 (S.id : Int))) :=
   ((((Mod.refl _ wr).setCell (p := ⟨B.p, 4, none⟩) (.inl (.inl rfl)) _).setCell (p := ⟨B.p, 6, none⟩) (.inl (.inl rfl)) _).setCell (p := ⟨B.O, k, none⟩) (.inl (.inr (.inl rfl))) _).setCell (p := ⟨B.K, k, none⟩) (.inl (.inr (.inr rfl))) _
  have h0 : OwZ wr T (X ++ [k]).length d (zs (X ++ [k])) := hF.stk
  have h1 : Ow wr 3 1 T X.length d ((ivs (zs (X ++ [k]))).take (X.length * 1)) := Ow.take_ h0 (by simp)
  have h2 : (ivs (zs (X ++ [k]))).take (X.length * 1) = ivs (zs X) := by simp [zs, ivs]
  rw [h2] at h1
  exact Ow.mod h1 hm (fun j hj he => by
   rcases he with rfl | rfl | rfl
   ·exact hTp hj
   ·exact hTo hj
   ·exact hF.tk hj)
def PopRel (w : World) (B : Fin') (A : Option Addr) (n c : Nat) (T : Option Addr) (d : Nat) (S : KS) (q : Nat) (A0 B0 : List Nat) (i : Nat) (wr : World) : Prop :=
 ∃ r, r ≤ B0.length ∧ Fin wr B A n c T d (popK S (A0 ++ i :: B0.take r) (B0.drop r)) ∧ Blk wr q 3 #[.int .i64 (S.id : Int)] ∧ Mod (LvF B q) w wr
theorem leave_yes (h : Fin w B A n c T d S) (i : Nat) (hi : i < n) (hn : n ≤ 1000000) (q : Nat) (hq : Blk w q 3 #[.int .i64 (S.id : Int)]) (hqn : q ≠ B.N ∧ q ≠ B.L ∧ q ≠ B.K ∧ ¬ fp T q) (hid : S.id ≤ 1000000)
  (hs : S.stk.length + S.cnt ≤ 1000000) (hl : S.low i = S.num i) (A0 B0 : List Nat) (hst : S.stk = A0 ++ i :: B0) (hiB : i ∉ B0) (hlt : ∀ v ∈ S.stk, v < n) :
  Calls Tryz.prog 264 #[.pointer (some ⟨B.p, 0, none⟩), .int .i64 (i : Int), .pointer (some ⟨q, 0, none⟩)] w fun e w' => e = .returned (.tuple #[]) ∧
   Fin w' B A n c T d (popK S A0 (i :: B0)) ∧ Blk w' q 3 #[.int .i64 ((S.id + 1 : Nat) : Int)] ∧ Mod (LvF B q) w w' := by
 have hS0 : popK S (A0 ++ i :: B0) [] = { S with id := S.id + 1 } := by
  unfold popK; simp [hst]
 have hF0 : Fin w B A n c T d (popK S (A0 ++ i :: B0.take B0.length) (B0.drop B0.length)) := by
  rw [List.take_length, List.drop_length, hS0]
  exact ⟨h.blk, h.num, h.low, h.on, h.knot, h.stk, h.nl, h.nk, h.lk, h.tn, h.tl, h.tk⟩
 have y1 := h.blk.cell_ (i := 1) rfl
 have y2 := h.blk.cell_ (i := 2) rfl
 have q1 := h.num.cell_ (rowI_get S.num hi)
 have q2 := h.low.cell_ (rowI_get S.low hi)
 have hd : (S.low i != S.num i) = false := by simpa using hl
 have hc0 : S.stk.length + S.cnt = A0.length + 1 + B0.length + S.cnt := by rw [hst]; simp; omega
 obtain ⟨p, bN, bL, bO, bK⟩ := B
 dsimp only at *
 replace h := zH h
 replace hq := zH hq
 replace hqn := zH hqn
 replace hF0 := zH hF0
 replace hlt := zH hlt
 replace hst := zH hst
 replace hiB := zH hiB
 replace hS0 := zH hS0
 replace hl := zH hl
 go_enter Tryz.func264, Tryz.ntmps264
 go_wp2_with (go_quiet (fail))
 go_loopw [] (fun wr => PopRel w ⟨p, bN, bL, bO, bK⟩ A n c T d S q A0 B0 i wr) (fun wr => stkLen wr p)
 case atStart => exact ⟨B0.length, Nat.le_refl _, Fin.mod0 hF0.out ((Mod.refl none_ w).drewN _), hq.out.drewN _, (Mod.refl _ w).drewN _⟩
 case round =>
  obtain ⟨r, hr, hF, hB, hm⟩ := hrel
  have hcase : ∃ (X : List Nat) (k : Nat), A0 ++ i :: B0.take r = X ++ [k] ∧ X.length = A0.length + r ∧ ((r = 0 ∧ k = i ∧ X = A0 ∧ B0.drop r = B0) ∨ (∃ r', r = r' + 1 ∧ k ∈ B0 ∧ X = A0 ++ i :: B0.take r' ∧ k :: B0.drop r = B0.drop r')) ∧ k < n := by
   rcases r with _ | r'
   ·exact ⟨A0, i, by simp, rfl, .inl ⟨rfl, rfl, rfl, rfl⟩, hi⟩
   ·have hlt' : r' < B0.length := by omega
    refine ⟨A0 ++ i :: B0.take r', B0[r'], ?_, ?_, .inr ⟨r', rfl, List.getElem_mem hlt', rfl, ?_⟩, ?_⟩
    ·rw [List.take_succ_eq_append_getElem hlt']; simp
    ·simp; omega
    ·rw [← List.drop_eq_getElem_cons hlt']
    ·exact hlt.out _ (by rw [hst.out]; simp)
  obtain ⟨X, k, hX, hXl, hcs, hkn⟩ := hcase
  have hC : (B0.drop r).length = B0.length - r := by simp
  rw [hX] at hF
  generalize B0.drop r = C at *
  have hsl : stkLen wr p = X.length + 1 := by
   have := hF.len
   rw [this]
   simp [popK]
  have e0 : (popK S (X ++ [k]) C).stk.length = X.length + 1 := by simp [popK]
  have x4 := hF.blk.cell_ (i := 4) rfl
  rw [e0] at x4
  have x6 := hF.blk.cell_ (i := 6) rfl
  have x3 := hF.blk.cell_ (i := 3) rfl
  have x5 := hF.blk.cell_ (i := 5) rfl
  have z4 := hF.blk.frozen 4
  have z6 := hF.blk.frozen 6
  have xo := hF.on.cell_ (rowT_get _ hkn)
  have zo := hF.on.frozen k
  have xk := hF.knot.cell_ (rowI_get _ hkn)
  have zk := hF.knot.frozen k
  have xq := hB.cell_ (i := 0) rfl
  have zq := hB.frozen 0
  obtain ⟨b, hb, _, hsk⟩ : ∃ b, T = some ⟨b, 0, none⟩ ∧ True ∧ wr.cell? ⟨b, X.length, none⟩ = some (.int .i64 (k : Int)) := by
   obtain ⟨g, cur, hT, hg, _, hcur⟩ := Ow.form hF.stk (by omega)
   refine ⟨g, hT, trivial, ?_⟩
   have := Ow.cell_ hF.stk hT X.length (by omega)
   rw [this]
   simp [popK, zs, ivs]
  have pO : ¬ p = bO := hF.blk.ne_ hF.on (by decide)
  have pK : ¬ p = bK := hF.blk.ne_ hF.knot (by decide)
  have Ok : ¬ bO = bK := hF.on.ne_ hF.knot (by decide)
  have pq : ¬ q = p := hB.ne_ hF.blk (by decide)
  have qO : ¬ q = bO := hB.ne_ hF.on (by decide)
  have qK : ¬ q = bK := hqn.out.2.2.1
  have ex6 : ((popK S (X ++ [k]) C).cnt : Int) = ((S.cnt + C.length : Nat) : Int) := rfl
  rw [ex6] at x6
  have hcb : S.cnt + C.length ≤ 1000000 := by omega
  generalize (popK S (X ++ [k]) C).on k = o1 at xo
  generalize (popK S (X ++ [k]) C).knot k = o2 at xk
  subst hb
  have hXb : X.length ≤ 1000000 := by omega
  have hxd : (X.length : Int) ≤ (d : Int) := by have := hF.stk.2.1; omega
  have hxm : (X.length : Int) ≤ 1000000 := by omega
  have hxw : IntKind.i64.wrap (X.length : Int) = (X.length : Int) := by rw [IntKind.wrap_i64]; omega
  generalize hxl : X.length = xl at *
  generalize hcn : S.cnt + C.length = cn at *
  clear ex6 e0
  replace hF := zH hF
  replace hB := zH hB
  replace hm := zH hm
  replace hX := zH hX
  replace hC := zH hC
  replace hsl := zH hsl
  replace hxl := zH hxl
  replace hcn := zH hcn
  replace hXl := zH hXl
  by_cases hki : k = i
  ·subst hki
   have hdk : ((k : Int) == (k : Int)) = true := by simp
   replace hcs := zH hcs
   go_wp2_with (go_quiet (fail))
   go_region
   all_goals go_wp2_with (go_quiet (fail))
   all_goals go_region
   all_goals go_wp2_with (go_quiet (fail))
   go_end0
   rcases hcs.out with ⟨_, _, h8, h9⟩ | ⟨r', _, h9, _⟩
   ·have hP := pop_mem (Fin.mod0 hF.out ((Mod.refl none_ wr).drewN (nq + 1))) hxl.out hcn.out
    rw [h8, h9] at hP
    refine ⟨rfl, ?_, ?_, ?_⟩
    ·exact (hP.mod (F := fun j => j = q) ((Mod.refl (fun j => j = q) _).setCell (p := ⟨q, 0, none⟩) (.inl rfl) _) (fun e => pq e.symm) (fun e => hqn.out.1 e.symm) (fun e => hqn.out.2.1 e.symm) (fun e => qO e.symm) (fun e => qK e.symm) (fun j hj e => hqn.out.2.2.2 (e ▸ hj))).mod0 ((Mod.refl none_ _).drew)
    ·have := (((((hB.out.drewN (nq + 1)).far (p := ⟨p, 4, none⟩) pq (.slice (some ⟨b, 0, none⟩) xl d)).far (p := ⟨p, 6, none⟩) pq (.int .i64 ((cn : Int) + 1))).far (p := ⟨bO, k, none⟩) qO (.bool false)).far (p := ⟨bK, k, none⟩) qK (.int .i64 (S.id : Int))).set_ 0 (.int .i64 ((S.id : Int) + 1))
     exact (by simpa using this : Blk _ q 3 #[.int .i64 ((S.id + 1 : Nat) : Int)]).drew
    ·exact ((((((hm.out.drewN (nq + 1)).setCell (p := ⟨p, 4, none⟩) (.inl (.inl rfl)) _).setCell (p := ⟨p, 6, none⟩) (.inl (.inl rfl)) _).setCell (p := ⟨bO, k, none⟩) (.inl (.inr (.inl rfl))) _).setCell (p := ⟨bK, k, none⟩) (.inl (.inr (.inr (.inl rfl)))) _).setCell (p := ⟨q, 0, none⟩) (.inl (.inr (.inr (.inr rfl)))) _).drew
   ·exact absurd h9 hiB.out
  ·have hdk : ((k : Int) == (i : Int)) = false := by simp; omega
   replace hcs := zH hcs
   go_wp2_with (go_quiet (fail))
   go_region
   all_goals go_wp2_with (go_quiet (fail))
   all_goals go_region
   all_goals go_wp2_with (go_quiet (fail))
   go_roundw
   case rel =>
    rcases hcs.out with ⟨_, h9, _⟩ | ⟨r', h8, h9, h10, h11⟩
    ·exact absurd h9 hki
    ·have hP := pop_mem (Fin.mod0 hF.out ((Mod.refl none_ wr).drewN (nq + 1))) hxl.out hcn.out
     refine ⟨r', by omega, ?_, ?_, ?_⟩
     ·rw [← h10, ← h11]
      exact hP.mod0 (Mod.refl none_ _).drew
     ·exact (((((hB.out.drewN (nq + 1)).far (p := ⟨p, 4, none⟩) pq _).far (p := ⟨p, 6, none⟩) pq _).far (p := ⟨bO, k, none⟩) qO _).far (p := ⟨bK, k, none⟩) qK _).drew
     ·exact (((((hm.out.drewN (nq + 1)).setCell (p := ⟨p, 4, none⟩) (.inl (.inl rfl)) _).setCell (p := ⟨p, 6, none⟩) (.inl (.inl rfl)) _).setCell (p := ⟨bO, k, none⟩) (.inl (.inr (.inl rfl))) _).setCell (p := ⟨bK, k, none⟩) (.inl (.inr (.inr (.inl rfl)))) _).drew
   case measure =>
    have hP := (pop_mem (Fin.mod0 hF.out ((Mod.refl none_ wr).drewN (nq + 1))) hxl.out hcn.out).mod0 ((Mod.refl none_ _).drew)
    have h3 := hP.len
    have h2 : (popK S X (k :: C)).stk.length = xl := hxl.out
    rw [h2] at h3
    have h4 := hsl.out
    exact Nat.lt_of_le_of_lt (Nat.le_of_eq h3) (by rw [h4]; exact Nat.lt_succ_self _)
end
end Go.Proofs.YtfkfiokkjjnhiaaGreat.Kn
namespace Go.Proofs.YtfkfiokkjjnhiaaGreat.Kn
abbrev Path := List (Nat × Nat)
structure SP (g : List (List Int)) (S : KS) (P : Path) : Prop where
 core : Core g S (P.map (·.1))
 pro : Pro g S P
 way : ∀ p ∈ P, ∀ l, g[p.1]? = some l → p.2 ≤ l.length
 idc : S.id ≤ S.cnt
def un (g : List (List Int)) (S : KS) : Nat := (List.range g.length).countP fun v => S.num v == -1
theorem SP.few {g : List (List Int)} {S : KS} {P : Path} (h : SP g S P) : S.stk.length + S.cnt + un g S = g.length := h.core.few
theorem SP.top {g : List (List Int)} {S : KS} {P0 : Path} {i e : Nat} (h : SP g S (P0 ++ [(i, e)])) : i ∈ S.stk ∧ i < g.length ∧ S.num i ≠ -1 := by
 have h1 : i ∈ S.stk := h.core.pst i (by simp)
 exact ⟨h1, h.core.lt i h1, by have := h.core.ent i h1; omega⟩
section
variable {g : List (List Int)} {S : KS} {P0 : Path} {i e : Nat} {l : List Int} {x : Int}
theorem way_next (h : ∀ p ∈ P0 ++ [(i, e)], ∀ l, g[p.1]? = some l → p.2 ≤ l.length) (hl : g[i]? = some l) (hx : l[e]? = some x) : ∀ p ∈ P0 ++ [(i, e + 1)], ∀ l, g[p.1]? = some l → p.2 ≤ l.length := by
 intro p hp l' hl'
 rcases List.mem_append.1 hp with hp | hp
 ·exact h p (List.mem_append_left _ hp) l' hl'
 ·simp at hp
  subst hp
  rw [hl] at hl'
  injection hl' with hl'
  subst hl'
  rcases Nat.lt_or_ge e l.length with h1 | h1
  ·exact h1
  ·rw [List.getElem?_eq_none h1] at hx; cases hx
theorem pro_next {T : KS} (h : Pro g T (P0 ++ [(i, e)])) (hl : g[i]? = some l) (hx : l[e]? = some x) (hd : ∀ k : Nat, x = (k : Int) → k < g.length → Done g T k ∨ (k ∈ T.stk ∧ T.low i ≤ T.num k)) : Pro g T (P0 ++ [(i, e + 1)]) := by
 intro p hp e' k l' he h1 h2 h3
 rcases List.mem_append.1 hp with hp | hp
 ·exact h p (List.mem_append_left _ hp) e' k l' he h1 h2 h3
 ·simp at hp
  subst hp
  by_cases e1 : e' = e
  ·subst e1
   rw [hl] at h1
   injection h1 with h1
   subst h1
   rw [hx] at h2
   injection h2 with h2
   exact hd k h2 h3
  ·exact h (i, e) (by simp) e' k l' (by simp at he ⊢; omega) h1 h2 h3
theorem SP.skip (h : SP g S (P0 ++ [(i, e)])) (hl : g[i]? = some l) (hx : l[e]? = some x) (hd : ∀ k : Nat, x = (k : Int) → k < g.length → Done g S k) : SP g S (P0 ++ [(i, e + 1)]) :=
 ⟨by have := h.core; simpa using this, pro_next h.pro hl hx fun k h1 h2 => .inl (hd k h1 h2), way_next h.way hl hx, h.idc⟩
theorem edge_of {k : Nat} (hl : g[i]? = some l) (hx : l[e]? = some (k : Int)) (hk : k < g.length) : Edge g i k := ⟨l, hl, List.mem_of_getElem? hx, hk⟩
theorem SP.low {k : Nat} (h : SP g S (P0 ++ [(i, e)])) (hl : g[i]? = some l) (hx : l[e]? = some (k : Int)) (hk : k < g.length) (ho : S.on k = true) : SP g (lowK S i (S.num k)) (P0 ++ [(i, e + 1)]) := by
 have hks : k ∈ S.stk := (h.core.on k hk).1 ho
 have hc : Core g S (P0.map (·.1) ++ [i]) := by have := h.core; simpa using this
 refine ⟨by have := low_core hc hks (edge_of hl hx hk); simpa using this, pro_next (low_pro h.pro i (S.num k)) hl hx ?_, way_next h.way hl hx, h.idc⟩
 intro k' h1 _
 have : k' = k := by omega
 subst this
 refine .inr ⟨hks, ?_⟩
 show upd S.low i (min (S.low i) (S.num k')) i ≤ S.num k'
 rw [upd_self]; omega
theorem SP.reach {k : Nat} (h : SP g S (P0 ++ [(i, e)])) (hed : Edge g i k) : ∀ p ∈ (P0 ++ [(i, e)]).map (·.1), RT g p k := by
 intro p hp
 have hc : Core g S (P0.map (·.1) ++ [i]) := by have := h.core; simpa using this
 have hp' : p ∈ P0.map (·.1) ++ [i] := by simpa using hp
 have hi : i ∈ S.stk := hc.pst i (by simp)
 have hle : S.num p ≤ S.num i := by
  rcases List.mem_append.1 hp' with h1 | h1
  ·have := top_max hc.psr p h1; omega
  ·simp at h1; subst h1; exact Int.le_refl _
 exact .step (hc.rch i hi p hp' hle) hed
theorem SP.enter {k : Nat} (h : SP g S (P0 ++ [(i, e)])) (hl : g[i]? = some l) (hx : l[e]? = some (k : Int)) (hk : k < g.length) (hn : S.num k = -1) : SP g (enterK S k) (P0 ++ [(i, e + 1)] ++ [(k, 0)]) := by
 have hc := enter_core h.core hk hn (h.reach (edge_of hl hx hk))
 refine ⟨by simpa using hc, enter_pro (P := P0 ++ [(i, e + 1)]) h.core (fun p hp => ?_) hn ?_, ?_, h.idc⟩
 ·rcases List.mem_append.1 hp with hp | hp
  ·simp; exact .inl ⟨p.2, hp⟩
  ·simp at hp; subst hp; simp
 ·intro p hp e' x' l' he h1 h2 h3
  rcases List.mem_append.1 hp with hp | hp
  ·exact .inr (h.pro p (List.mem_append_left _ hp) e' x' l' he h1 h2 h3)
  ·simp at hp
   subst hp
   by_cases e1 : e' = e
   ·subst e1
    rw [hl] at h1
    injection h1 with h1
    subst h1
    rw [hx] at h2
    injection h2 with h2
    exact .inl (by omega)
   ·exact .inr (h.pro (i, e) (by simp) e' x' l' (by simp at he ⊢; omega) h1 h2 h3)
 ·intro p hp l' hl'
  rcases List.mem_append.1 hp with hp | hp
  ·exact way_next h.way hl hx p hp l' hl'
  ·simp at hp; subst hp; exact Nat.zero_le _
theorem un_enter {k : Nat} (hk : k < g.length) (hn : S.num k = -1) : un g (enterK S k) + 1 = un g S :=
 countP_upd (f := S.num) (x := ((S.stk.length + S.cnt : Nat) : Int)) (by omega) hn g.length hk
theorem SP.all (h : SP g S (P0 ++ [(i, e)])) (hl : g[i]? = some l) (he : l.length ≤ e) : ∀ k, Edge g i k → Done g S k ∨ (k ∈ S.stk ∧ S.low i ≤ S.num k) := by
 rintro k ⟨l', h1, h2, h3⟩
 rw [hl] at h1
 injection h1 with h1
 subst h1
 obtain ⟨j, hj, hjk⟩ := List.getElem_of_mem h2
 exact h.pro (i, e) (by simp) j k l (by simp; omega) hl (by rw [List.getElem?_eq_getElem hj, hjk]) h3
theorem SP.up {u f : Nat} {P1 : Path} (h : SP g S (P1 ++ [(u, f)] ++ [(i, e)])) (hl : g[i]? = some l) (he : l.length ≤ e) (hlow : S.low i ≠ S.num i) : SP g (lowK S u (S.low i)) (P1 ++ [(u, f)]) := by
 have hc : Core g S (P1.map (·.1) ++ [u] ++ [i]) := by have := h.core; simpa using this
 have hlt : S.low i < S.num i := by have := (hc.lowr i (hc.pst i (by simp))).1; omega
 exact ⟨by have := up_core hc hlt (h.all hl he); simpa using this, low_pro (fun p hp => h.pro p (List.mem_append_left _ hp)) u (S.low i), fun p hp => h.way p (List.mem_append_left _ hp), h.idc⟩
theorem SP.up_ne (h : SP g S (P0 ++ [(i, e)])) (hlow : S.low i ≠ S.num i) : ∃ P1 u f, P0 = P1 ++ [(u, f)] := by
 have hc : Core g S (P0.map (·.1) ++ [i]) := by have := h.core; simpa using this
 have hlt : S.low i < S.num i := by have := (hc.lowr i (hc.pst i (by simp))).1; omega
 have hne : P0 ≠ [] := fun e => up_has hc hlt (by rw [e]; rfl)
 refine ⟨P0.dropLast, (P0.getLast hne).1, (P0.getLast hne).2, ?_⟩
 exact (List.dropLast_concat_getLast hne).symm
theorem SP.parts (h : SP g S (P0 ++ [(i, e)])) : ∃ A0 B0, S.stk = A0 ++ i :: B0 ∧ i ∉ B0 := by
 obtain ⟨A0, B0, hs⟩ := List.append_of_mem h.top.1
 refine ⟨A0, B0, hs, fun hm => ?_⟩
 have := (pop_parts h.core hs).2.1 i hm
 omega
theorem SP.pop {A0 B0 : List Nat} (h : SP g S (P0 ++ [(i, e)])) (hl : g[i]? = some l) (he : l.length ≤ e) (hlow : S.low i = S.num i) (hs : S.stk = A0 ++ i :: B0) : SP g (popK S A0 (i :: B0)) P0 := by
 have hc : Core g S (P0.map (·.1) ++ [i]) := by have := h.core; simpa using this
 refine ⟨pop_core hc hs hlow (h.all hl he), pop_pro hc hs (fun p hp => h.pro p (List.mem_append_left _ hp)), fun p hp => h.way p (List.mem_append_left _ hp), ?_⟩
 have := h.idc
 show S.id + 1 ≤ S.cnt + (i :: B0).length
 simp; omega
theorem SP.pop_low {u f : Nat} {P1 : Path} (h : SP g S (P1 ++ [(u, f)] ++ [(i, e)])) (hlow : S.low i = S.num i) : min (S.low u) (S.low i) = S.low u := by
 have hc : Core g S (P1.map (·.1) ++ [u] ++ [i]) := by have := h.core; simpa using this
 have h1 := (hc.lowr u (hc.pst u (by simp))).1
 have h2 := top_max hc.psr u (by simp)
 omega
theorem lowK_same {u : Nat} {x : Int} (h : min (S.low u) x = S.low u) : lowK S u x = S := by
 unfold lowK
 rw [h]
 have : upd S.low u (S.low u) = S.low := by
  funext v
  by_cases e : v = u
  ·subst e; exact upd_self _ _ _
  ·exact upd_ne _ _ e
 rw [this]
end
theorem SP.first {g : List (List Int)} {S : KS} {k : Nat} (h : SP g S []) (hk : k < g.length) (hn : S.num k = -1) : SP g (enterK S k) [(k, 0)] := by
 have hc := enter_core h.core hk hn (fun p hp => by cases hp)
 refine ⟨by simpa using hc, enter_pro (P := []) h.core (fun p hp => by cases hp) hn (fun p hp => by cases hp), fun p hp l hl => ?_, h.idc⟩
 simp at hp
 subst hp
 exact Nat.zero_le _
def S0 : KS := ⟨fun _ => -1, fun _ => 0, fun _ => false, fun _ => 0, [], 0, 0⟩
theorem countP_true {n : Nat} {p : Nat → Bool} (h : ∀ v, p v = true) : (List.range n).countP p = n := by
 have : ∀ l : List Nat, l.countP p = l.length := fun l => by
  rw [List.countP_eq_length]; exact fun v _ => h v
 rw [this]; simp
theorem SP.zero (g : List (List Int)) : SP g S0 [] := by
 have hD : ∀ v, ¬ Done g S0 v := fun v hv => hv.2.1 rfl
 have hS : ∀ v, v ∉ S0.stk := fun v hv => by cases hv
 refine ⟨⟨?_, ?_, ?_, ?_, ?_, ?_, ?_, ?_, ?_, ?_, ?_, ?_, ?_, ?_, ?_, ?_, ?_, ?_⟩, ?_, ?_, Nat.le_refl _⟩
 ·exact fun v hv => absurd hv (hS v)
 ·exact List.Pairwise.nil
 ·exact fun v _ => ⟨fun h => (by cases h), fun h => absurd h (hS v)⟩
 ·exact fun v _ => .inl rfl
 ·exact fun v hv => absurd hv (hS v)
 ·exact fun v hv => (by cases hv)
 ·exact List.Pairwise.nil
 ·exact fun v hv => absurd hv (hS v)
 ·exact fun v hv => absurd hv (hS v)
 ·exact fun v hv => absurd hv (hS v)
 ·exact fun v hv => absurd hv (hS v)
 ·exact fun v hv => absurd hv (hS v)
 ·exact fun v hv => absurd hv (hS v)
 ·exact fun v k hv => absurd hv (hD v)
 ·exact fun v hv => absurd hv (hD v)
 ·exact fun u v hu => absurd hu (hD u)
 ·exact fun a ha => absurd ha (Nat.not_lt_zero a)
 ·show 0 + 0 + (List.range g.length).countP (fun v => (-1 : Int) == -1) = g.length
  have := countP_true (n := g.length) (p := fun _ => (-1 : Int) == -1) (fun _ => rfl)
  omega
 ·exact fun p hp => (by cases hp)
 ·exact fun p hp => (by cases hp)
end Go.Proofs.YtfkfiokkjjnhiaaGreat.Kn
namespace Go.Proofs.YtfkfiokkjjnhiaaGreat.Kn
open Go.RowKit
def fcs (P : Path) : List Value := P.flatMap fun p => [.int .i64 (p.1 : Int), .int .i64 (p.2 : Int)]
theorem fcs_len (P : Path) : (fcs P).length = P.length * 2 := flat_length _ 2 (fun _ => rfl) P
theorem fcs_app (P Q : Path) : fcs (P ++ Q) = fcs P ++ fcs Q := by simp [fcs]
theorem fcs_last (P : Path) (i e : Nat) : (fcs (P ++ [(i, e)]))[P.length * 2]? = some (.int .i64 (i : Int)) ∧ (fcs (P ++ [(i, e)]))[P.length * 2 + 1]? = some (.int .i64 (e : Int)) := by
 rw [fcs_app]
 have := fcs_len P
 constructor
 ·rw [List.getElem?_append_right (by omega), this]; simp [fcs]
 ·rw [List.getElem?_append_right (by omega), this]; simp [fcs]
theorem fcs_set (P : Path) (i e f : Nat) : (fcs (P ++ [(i, e)])).set (P.length * 2 + 1) (.int .i64 (f : Int)) = fcs (P ++ [(i, f)]) := by
 rw [fcs_app, fcs_app, List.set_append_right _ _ (by rw [fcs_len]; omega), fcs_len]
 have : P.length * 2 + 1 - P.length * 2 = 1 := by omega
 rw [this]
 simp [fcs]
theorem fcs_one (P : Path) : ∀ u ∈ fcs P, u.oneCell' = true := by
 intro u hu
 simp only [fcs, List.mem_flatMap] at hu
 obtain ⟨p, _, hp⟩ := hu
 simp at hp
 rcases hp with rfl | rfl <;> rfl
def OwP (w : World) (P : Option Addr) (m c : Nat) (path : Path) : Prop := Ow w 335 2 P m c (fcs path)
theorem frinfo : (Tryz.prog.info? 335).map (fun i => (i.zero, i.size, i.bytes)) = some (some (.agg #[.int .i64 0, .int .i64 0]), 2, 16) := by kernel_rfl
theorem appP {w : World} {ops : Array Oper} {rest : List Oper} {o : Oper} {a : Act} {Q : Exit → Act → World → Prop} (hgd : o.guard = none) (s x : Operand)
  (ho : o.op = .call { callee := .builtin .append, args := #[s, x], argTypes := #[337, 337] })
  {A : Option Addr} {n c : Nat} {xs : Path} (hs : a.eval s = .slice A n c) (hown : OwP w A n c xs)
  {S : Option Addr} {m d : Nat} {news : Path} (hx : a.eval x = .slice S m d) (hr : Rd w 2 S m (fcs news)) (hb : (n + m) * 16 ≤ 140737488355328)
  (h : ∀ A' c' w', OwP w' A' (n + m) c' (xs ++ news) → Mod (fp A) w w' → (A' = A ∨ A' = some ⟨w.heap.size, 0, none⟩) → wpList Tryz.prog ops Q rest (a.put o.dst (.slice A' (n + m) c')) w') : wpList Tryz.prog ops Q (o :: rest) a w := by
 obtain ⟨i0, hi, hz0, hz1, hz2⟩ := info_parts frinfo
 refine wpList_append_ow hgd s x 337 ho 335 i0 _ 2 16 Tryz.underlying337 hi hz0 hz1 hz2 rfl (by omega) A n c (fcs xs) hs hown S m d (fcs news) hx hr (fcs_one _) (by omega) (by omega) ?_
 intro A' c' w' h1
 rw [← fcs_app] at h1
 exact h A' c' w' h1
theorem rdf_one (w : World) (e : TypeId) (g : Nat) (hg : g = w.heap.size) (i k : Nat) : Rd (w.alloc (.cells #[.int .i64 (i : Int), .int .i64 (k : Int)] e)) 2 (some ⟨g, 0, none⟩) 1 (fcs [(i, k)]) :=
 rdn w e 2 1 g #[.int .i64 (i : Int), .int .i64 (k : Int)] (0, 0) hg rfl
structure Scn where
 w0 : World
 B : Fin'
 A : Option Addr
 n : Nat
 c : Nat
 q : Nat
structure Scn.Ok (Z : Scn) : Prop where
 p : Z.w0.heap.size ≤ Z.B.p
 N : Z.w0.heap.size ≤ Z.B.N
 L : Z.w0.heap.size ≤ Z.B.L
 O : Z.w0.heap.size ≤ Z.B.O
 K : Z.w0.heap.size ≤ Z.B.K
 q : Z.w0.heap.size ≤ Z.q
 qN : Z.q ≠ Z.B.N
 qL : Z.q ≠ Z.B.L
 qK : Z.q ≠ Z.B.K
structure Sch (Z : Scn) (w : World) (T : Option Addr) (d : Nat) (S : KS) (P : Option Addr) (cp : Nat) (path : Path) : Prop where
 fin : Fin w Z.B Z.A Z.n Z.c T d S
 qb : Blk w Z.q 3 #[.int .i64 (S.id : Int)]
 qT : ¬ fp T Z.q
 m0 : Mod none_ Z.w0 w
 fT : Fresh Z.w0 T
 own : OwP w P path.length cp path
 fP : Fresh Z.w0 P
section
variable {Z : Scn} {w w' : World} {T : Option Addr} {d : Nat} {S : KS} {P : Option Addr} {cp : Nat} {path : Path}
theorem Sch.mod0 (h : Sch Z w T d S P cp path) (hm : Mod none_ w w') : Sch Z w' T d S P cp path :=
 ⟨h.fin.mod0 hm, h.qb.mod hm (fun h => h), h.qT, h.m0.trans hm, h.fT, Ow.mod0 h.own hm, h.fP⟩
theorem Sch.way {P0 : Path} {i e gP : Nat} (h : Sch Z w T d S P cp (P0 ++ [(i, e)])) (hP : P = some ⟨gP, 0, none⟩) (f : Nat) :
  Sch Z (w.setCell ⟨gP, P0.length * 2 + 1, none⟩ (.int .i64 (f : Int))) T d S P cp (P0 ++ [(i, f)]) := by
 have hm : Mod (fun k => k = gP) w (w.setCell ⟨gP, P0.length * 2 + 1, none⟩ (.int .i64 (f : Int))) := (Mod.refl (fun k => k = gP) w).setCell (p := ⟨gP, P0.length * 2 + 1, none⟩) (.inl rfl) _
 have hg : ∀ {g : Nat} {t : TypeId} {cs : Array Value}, Blk w g t cs → 335 ≠ t → ¬ g = gP := fun hb hne e => Ow.ne_blk h.own hb hne ⟨_, hP, e.symm⟩
 have hpp : ∀ k, fp T k → ¬ k = gP := fun k hk e => Ow.ne_ow h.fin.stk h.own (by decide) k hk ⟨_, hP, e.symm⟩
 refine ⟨h.fin.mod hm (hg h.fin.blk (by decide)) (hg h.fin.num (by decide)) (hg h.fin.low (by decide)) (hg h.fin.on (by decide)) (hg h.fin.knot (by decide)) hpp, h.qb.mod hm (hg h.qb (by decide)), h.qT, ?_, h.fT, ?_, h.fP⟩
 ·exact h.m0.then hm fun k hk e => by
   have := h.fP _ hP
   simp only at this
   omega
 ·have := Ow.set_ h.own hP (P0.length * 2 + 1) (.int .i64 (f : Int))
  rw [fcs_set] at this
  have e1 : (P0 ++ [(i, f)]).length = (P0 ++ [(i, e)]).length := by simp
  unfold OwP
  rw [e1]; exact this
theorem Sch.low (hZ : Z.Ok) (h : Sch Z w T d S P cp path) {i : Nat} {x : Int} : Sch Z (w.setCell ⟨Z.B.L, i, none⟩ (.int .i64 (min (S.low i) x))) T d (lowK S i x) P cp path := by
 have hm : Mod (fun k => k = Z.B.L) w (w.setCell ⟨Z.B.L, i, none⟩ (.int .i64 (min (S.low i) x))) := (Mod.refl (fun k => k = Z.B.L) w).setCell (p := ⟨Z.B.L, i, none⟩) (.inl rfl) _
 have pL : Z.B.p ≠ Z.B.L := h.fin.blk.ne_ h.fin.low (by decide)
 have oL : Z.B.O ≠ Z.B.L := h.fin.on.ne_ h.fin.low (by decide)
 refine ⟨⟨h.fin.blk.mod hm pL, h.fin.num.mod hm h.fin.nl, ?_, h.fin.on.mod hm oL, h.fin.knot.mod hm h.fin.lk.symm, Ow.mod h.fin.stk hm (fun k hk e => h.fin.tl (e ▸ hk)), h.fin.nl, h.fin.nk, h.fin.lk, h.fin.tn, h.fin.tl, h.fin.tk⟩, h.qb.mod hm hZ.qL, h.qT, ?_, h.fT, ?_, h.fP⟩
 ·have := h.fin.low.set_ i (.int .i64 (min (S.low i) x))
  rw [rowI_set] at this
  exact this
 ·exact h.m0.then hm fun k hk e => by have := hZ.L; omega
 ·exact Ow.mod h.own hm (fun k hk e => Ow.ne_blk h.own h.fin.low (by decide) (e ▸ hk))
theorem Sch.enter (hZ : Z.Ok) (h : Sch Z w T d S P cp path) {k : Nat} {T' : Option Addr} {d' : Nat} (hF : Fin w' Z.B Z.A Z.n Z.c T' d' (enterK S k)) (hm : Mod (EnF Z.B T) w w') (hT : T' = T ∨ ∃ g, T' = some ⟨g, 0, none⟩ ∧ w.heap.size ≤ g) :
  Sch Z w' T' d' (enterK S k) P cp path := by
 have hq : ¬ EnF Z.B T Z.q := by
  rintro (e | e | e | e | e)
  ·exact h.qb.ne_ h.fin.blk (by decide) e
  ·exact hZ.qN e
  ·exact hZ.qL e
  ·exact h.qb.ne_ h.fin.on (by decide) e
  ·exact h.qT e
 have hsz := h.m0.size
 refine ⟨hF, h.qb.mod hm hq, ?_, ?_, ?_, ?_, h.fP⟩
 ·rcases hT with rfl | ⟨g, rfl, hg⟩
  ·exact h.qT
  ·rintro ⟨a, ha, e⟩
   cases ha
   have := h.qb.lt
   simp only at e
   omega
 ·refine h.m0.then hm fun j hj e => ?_
  rcases e with e | e | e | e | ⟨a, ha, e⟩
  ·have := hZ.p; omega
  ·have := hZ.N; omega
  ·have := hZ.L; omega
  ·have := hZ.O; omega
  ·have := h.fT a ha; omega
 ·rcases hT with rfl | ⟨g, rfl, hg⟩
  ·exact h.fT
  ·intro a ha; cases ha; simp only; omega
 ·refine Ow.mod h.own hm fun j hj e => ?_
  rcases e with rfl | rfl | rfl | rfl | e
  ·exact Ow.ne_blk h.own h.fin.blk (by decide) hj
  ·exact Ow.ne_blk h.own h.fin.num (by decide) hj
  ·exact Ow.ne_blk h.own h.fin.low (by decide) hj
  ·exact Ow.ne_blk h.own h.fin.on (by decide) hj
  ·exact Ow.ne_ow h.fin.stk h.own (by decide) j e hj
theorem Sch.push (h : Sch Z w T d S P cp path) {P' : Option Addr} {cp' : Nat} {x : Nat × Nat} (hO : OwP w' P' (path.length + 1) cp' (path ++ [x])) (hm : Mod (fp P) w w') (hP : P' = P ∨ P' = some ⟨w.heap.size, 0, none⟩) :
  Sch Z w' T d S P' cp' (path ++ [x]) := by
 have hf : ∀ {g : Nat} {t : TypeId} {cs : Array Value}, Blk w g t cs → 335 ≠ t → ¬ fp P g := fun hb hne => Ow.ne_blk h.own hb hne
 refine ⟨h.fin.mod hm (hf h.fin.blk (by decide)) (hf h.fin.num (by decide)) (hf h.fin.low (by decide)) (hf h.fin.on (by decide)) (hf h.fin.knot (by decide)) (fun k hk => Ow.ne_ow h.fin.stk h.own (by decide) k hk), h.qb.mod hm (hf h.qb (by decide)), h.qT, h.m0.app h.fP hm, h.fT, by simpa using hO, Fresh.app h.fP h.m0.size hP⟩
theorem Sch.pop {P0 : Path} {x : Nat × Nat} (h : Sch Z w T d S P cp (P0 ++ [x])) : Sch Z w T d S P cp P0 := by
 refine ⟨h.fin, h.qb, h.qT, h.m0, h.fT, ?_, h.fP⟩
 have := Ow.take_ h.own (k := P0.length) (by simp)
 have e : (fcs (P0 ++ [x])).take (P0.length * 2) = fcs P0 := by
  rw [fcs_app, ← fcs_len P0]; exact List.take_left
 rw [e] at this
 exact this
theorem Sch.leave (hZ : Z.Ok) (h : Sch Z w T d S P cp path) {A0 C : List Nat} (hF : Fin w' Z.B Z.A Z.n Z.c T d (popK S A0 C)) (hq : Blk w' Z.q 3 #[.int .i64 ((S.id + 1 : Nat) : Int)]) (hm : Mod (LvF Z.B Z.q) w w') :
  Sch Z w' T d (popK S A0 C) P cp path := by
 refine ⟨hF, hq, h.qT, ?_, h.fT, ?_, h.fP⟩
 ·refine h.m0.then hm fun j hj e => ?_
  rcases e with e | e | e | e
  ·have := hZ.p; omega
  ·have := hZ.O; omega
  ·have := hZ.K; omega
  ·have := hZ.q; omega
 ·refine Ow.mod h.own hm fun j hj e => ?_
  rcases e with rfl | rfl | rfl | rfl
  ·exact Ow.ne_blk h.own h.fin.blk (by decide) hj
  ·exact Ow.ne_blk h.own h.fin.on (by decide) hj
  ·exact Ow.ne_blk h.own h.fin.knot (by decide) hj
  ·exact Ow.ne_blk h.own h.qb (by decide) hj
end
end Go.Proofs.YtfkfiokkjjnhiaaGreat.Kn
