/-
  Knots: a place is left; a knot is taken off the stack.
-/
import Derived.Test.YtenlpklgpcnfiaaKnF
import Derived.StillTailTactics
namespace Go.Proofs.Ytenlpklgpcnfiaa
set_option linter.unusedVariables false
open Go.RowKit
def stkLen (w : World) (p : Nat) : Nat := match w.cell? ⟨p, 4, none⟩ with | some (.slice _ n _) => n | _ => 0
theorem Fin.len {w : World} {B : Fin'} {A : Option Addr} {n c : Nat} {T : Option Addr} {d : Nat} {S : KS} (h : Fin w B A n c T d S) : stkLen w B.p = S.stk.length := by
  unfold stkLen
  rw [h.blk.cell_ (i := 4) rfl]; rfl
def LvF (B : Fin') (q : Nat) : Nat → Prop := fun k => k = B.p ∨ k = B.O ∨ k = B.K ∨ k = q
theorem popK_on (S : KS) (A A' C : List Nat) (k : Nat) : (popK S A' (k :: C)).on = upd (popK S A C).on k false := by
  funext v
  show (if v ∈ k :: C then false else S.on v) = upd (fun v => if v ∈ C then false else S.on v) k false v
  by_cases e : v = k
  · subst e; rw [upd_self]; simp
  · rw [upd_ne _ _ e]; simp [e]
theorem popK_knot (S : KS) (A A' C : List Nat) (k : Nat) : (popK S A' (k :: C)).knot = upd (popK S A C).knot k (S.id : Int) := by
  funext v
  show (if v ∈ k :: C then (S.id : Int) else S.knot v) = upd (fun v => if v ∈ C then (S.id : Int) else S.knot v) k (S.id : Int) v
  by_cases e : v = k
  · subst e; rw [upd_self]; simp
  · rw [upd_ne _ _ e]; simp [e]
section
variable (w : World) (B : Fin') (A : Option Addr) (n c : Nat) (T : Option Addr) (d : Nat) (S : KS)
set_option maxRecDepth 100000 in
theorem leave_no (h : Fin w B A n c T d S) (i : Nat) (hi : i < n) (hn : n ≤ 1000000) (q : Nat) (hl : S.low i ≠ S.num i) :
    Calls Try.prog 30 #[.pointer (some ⟨B.p, 0, none⟩), .int .i64 (i : Int), .pointer (some ⟨q, 0, none⟩)] w fun e w' => e = .returned (.tuple #[]) ∧ ∃ k, w' = w.drewN k := by
  obtain ⟨h1, h2, h3, h4, h5, h6, h7, h8, h9, h10, h11, h12⟩ := h
  have y1 := h1.cell_ (i := 1) rfl
  have y2 := h1.cell_ (i := 2) rfl
  have q1 := h2.cell_ (rowI_get S.num hi)
  have q2 := h3.cell_ (rowI_get S.low hi)
  obtain ⟨p, bN, bL, bO, bK⟩ := B
  dsimp only at *
  have hd : (S.low i != S.num i) = true := by simpa using hl
  generalize S.low i = lo at *
  generalize S.num i = nu at *
  replace h1 := Lib.hid h1
  replace h2 := Lib.hid h2
  replace h3 := Lib.hid h3
  replace h4 := Lib.hid h4
  replace h5 := Lib.hid h5
  replace h6 := Lib.hid h6
  replace h10 := Lib.hid h10
  replace h11 := Lib.hid h11
  replace h12 := Lib.hid h12
  replace hl := Lib.hid hl
  go_enter Try.func30, Try.ntmps30
  go_wp2_with (go_quiet (fail))
  refine bodyPost_ret (results_none rfl _ _ _) rfl ?_
  exact ⟨rfl, _, rfl⟩
theorem Fin.mod0 {w w' : World} {B : Fin'} {A : Option Addr} {n c : Nat} {T : Option Addr} {d : Nat} {S : KS} (h : Fin w B A n c T d S) (hm : Mod none_ w w') : Fin w' B A n c T d S :=
  ⟨h.blk.mod hm (fun h => h), h.num.mod hm (fun h => h), h.low.mod hm (fun h => h), h.on.mod hm (fun h => h), h.knot.mod hm (fun h => h), Ow.mod0 h.stk hm, h.nl, h.nk, h.lk, h.tn, h.tl, h.tk⟩
theorem Fin.mod {F : Nat → Prop} {w w' : World} {B : Fin'} {A : Option Addr} {n c : Nat} {T : Option Addr} {d : Nat} {S : KS} (h : Fin w B A n c T d S) (hm : Mod F w w') (h1 : ¬ F B.p) (h2 : ¬ F B.N) (h3 : ¬ F B.L) (h4 : ¬ F B.O) (h5 : ¬ F B.K) (h6 : ∀ k, fp T k → ¬ F k) : Fin w' B A n c T d S :=
  ⟨h.blk.mod hm h1, h.num.mod hm h2, h.low.mod hm h3, h.on.mod hm h4, h.knot.mod hm h5, Ow.mod h.stk hm h6, h.nl, h.nk, h.lk, h.tn, h.tl, h.tk⟩
theorem pop_mem {wr : World} {B : Fin'} {A : Option Addr} {n c : Nat} {T : Option Addr} {d : Nat} {S : KS} {X C : List Nat} {k xl cn : Nat} (hF : Fin wr B A n c T d (popK S (X ++ [k]) C)) (hxl : X.length = xl) (hcn : S.cnt + C.length = cn) :
    Fin ((((wr.setCell ⟨B.p, 4, none⟩ (.slice T xl d)).setCell ⟨B.p, 6, none⟩ (.int .i64 ((cn : Int) + 1))).setCell ⟨B.O, k, none⟩ (.bool false)).setCell ⟨B.K, k, none⟩ (.int .i64 (S.id : Int))) B A n c T d (popK S X (k :: C)) := by
  subst hxl hcn
  have pN : B.p ≠ B.N := hF.blk.ne_ hF.num (by decide)
  have pL : B.p ≠ B.L := hF.blk.ne_ hF.low (by decide)
  have pO : B.p ≠ B.O := hF.blk.ne_ hF.on (by decide)
  have pK : B.p ≠ B.K := hF.blk.ne_ hF.knot (by decide)
  have oN : B.O ≠ B.N := hF.on.ne_ hF.num (by decide)
  have oL : B.O ≠ B.L := hF.on.ne_ hF.low (by decide)
  have oK : B.O ≠ B.K := hF.on.ne_ hF.knot (by decide)
  have hTp : ¬ fp T B.p := Ow.ne_blk hF.stk hF.blk (by decide)
  have hTo : ¬ fp T B.O := Ow.ne_blk hF.stk hF.on (by decide)
  have ex : (popK S X (k :: C)).stk.length = X.length := rfl
  have ec : ((popK S X (k :: C)).cnt : Int) = ((S.cnt + C.length : Nat) : Int) + 1 := by
    show ((S.cnt + (k :: C).length : Nat) : Int) = _
    simp; omega
  have far : ∀ {g : Nat} {t : TypeId} {cs : Array Value}, Blk wr g t cs → g ≠ B.p → g ≠ B.O → g ≠ B.K → Blk ((((wr.setCell ⟨B.p, 4, none⟩ (.slice T X.length d)).setCell ⟨B.p, 6, none⟩ (.int .i64 (((S.cnt + C.length : Nat) : Int) + 1))).setCell ⟨B.O, k, none⟩ (.bool false)).setCell ⟨B.K, k, none⟩ (.int .i64 (S.id : Int))) g t cs :=
    fun h h1 h2 h3 => (((h.far (p := ⟨B.p, 4, none⟩) h1 _).far (p := ⟨B.p, 6, none⟩) h1 _).far (p := ⟨B.O, k, none⟩) h2 _).far (p := ⟨B.K, k, none⟩) h3 _
  refine ⟨?_, far hF.num pN.symm oN.symm hF.nk, far hF.low pL.symm oL.symm hF.lk, ?_, ?_, ?_, hF.nl, hF.nk, hF.lk, hF.tn, hF.tl, hF.tk⟩
  · have := (((hF.blk.set_ 4 (.slice T X.length d)).set_ 6 (.int .i64 (((S.cnt + C.length : Nat) : Int) + 1))).far (p := ⟨B.O, k, none⟩) pO (.bool false)).far (p := ⟨B.K, k, none⟩) pK (.int .i64 (S.id : Int))
    rw [ex, ec]
    simpa using this
  · have := (((hF.on.far (p := ⟨B.p, 4, none⟩) pO.symm (.slice T X.length d)).far (p := ⟨B.p, 6, none⟩) pO.symm (.int .i64 (((S.cnt + C.length : Nat) : Int) + 1))).set_ k (.bool false)).far (p := ⟨B.K, k, none⟩) oK (.int .i64 (S.id : Int))
    rw [rowT_set] at this
    rw [popK_on S (X ++ [k]) X C k]
    exact this
  · have := (((hF.knot.far (p := ⟨B.p, 4, none⟩) pK.symm (.slice T X.length d)).far (p := ⟨B.p, 6, none⟩) pK.symm (.int .i64 (((S.cnt + C.length : Nat) : Int) + 1))).far (p := ⟨B.O, k, none⟩) oK.symm (.bool false)).set_ k (.int .i64 (S.id : Int))
    rw [rowI_set] at this
    rw [popK_knot S (X ++ [k]) X C k]
    exact this
  · have hm : Mod (fun j => j = B.p ∨ j = B.O ∨ j = B.K) wr ((((wr.setCell ⟨B.p, 4, none⟩ (.slice T X.length d)).setCell ⟨B.p, 6, none⟩ (.int .i64 (((S.cnt + C.length : Nat) : Int) + 1))).setCell ⟨B.O, k, none⟩ (.bool false)).setCell ⟨B.K, k, none⟩ (.int .i64 (S.id : Int))) :=
      ((((Mod.refl _ wr).setCell (p := ⟨B.p, 4, none⟩) (.inl (.inl rfl)) _).setCell (p := ⟨B.p, 6, none⟩) (.inl (.inl rfl)) _).setCell (p := ⟨B.O, k, none⟩) (.inl (.inr (.inl rfl))) _).setCell (p := ⟨B.K, k, none⟩) (.inl (.inr (.inr rfl))) _
    have h0 : OwZ wr T (X ++ [k]).length d (zs (X ++ [k])) := hF.stk
    have h1 : Ow wr 3 1 T X.length d ((ivs (zs (X ++ [k]))).take (X.length * 1)) := Ow.take_ h0 (by simp)
    have h2 : (ivs (zs (X ++ [k]))).take (X.length * 1) = ivs (zs X) := by simp [zs, ivs]
    rw [h2] at h1
    exact Ow.mod h1 hm (fun j hj he => by
      rcases he with rfl | rfl | rfl
      · exact hTp hj
      · exact hTo hj
      · exact hF.tk hj)
/-- what has been taken off so far -/
def PopRel (w : World) (B : Fin') (A : Option Addr) (n c : Nat) (T : Option Addr) (d : Nat) (S : KS) (q : Nat) (A0 B0 : List Nat) (i : Nat) (wr : World) : Prop :=
  ∃ r, r ≤ B0.length ∧ Fin wr B A n c T d (popK S (A0 ++ i :: B0.take r) (B0.drop r)) ∧ Blk wr q 3 #[.int .i64 (S.id : Int)] ∧ Mod (LvF B q) w wr
set_option maxRecDepth 100000 in
set_option maxHeartbeats 4000000 in
theorem leave_yes (h : Fin w B A n c T d S) (i : Nat) (hi : i < n) (hn : n ≤ 1000000) (q : Nat) (hq : Blk w q 3 #[.int .i64 (S.id : Int)]) (hqn : q ≠ B.N ∧ q ≠ B.L ∧ q ≠ B.K ∧ ¬ fp T q) (hid : S.id ≤ 1000000)
    (hs : S.stk.length + S.cnt ≤ 1000000) (hl : S.low i = S.num i) (A0 B0 : List Nat) (hst : S.stk = A0 ++ i :: B0) (hiB : i ∉ B0) (hlt : ∀ v ∈ S.stk, v < n) :
    Calls Try.prog 30 #[.pointer (some ⟨B.p, 0, none⟩), .int .i64 (i : Int), .pointer (some ⟨q, 0, none⟩)] w fun e w' => e = .returned (.tuple #[]) ∧
      Fin w' B A n c T d (popK S A0 (i :: B0)) ∧ Blk w' q 3 #[.int .i64 ((S.id + 1 : Nat) : Int)] ∧ Mod (LvF B q) w w' := by
  have hS0 : popK S (A0 ++ i :: B0) [] = { S with id := S.id + 1 } := by
    unfold popK; simp [hst]
  have hF0 : Fin w B A n c T d (popK S (A0 ++ i :: B0.take B0.length) (B0.drop B0.length)) := by
    rw [List.take_length, List.drop_length, hS0]
    exact ⟨h.blk, h.num, h.low, h.on, h.knot, h.stk, h.nl, h.nk, h.lk, h.tn, h.tl, h.tk⟩
  have y1 := h.blk.cell_ (i := 1) rfl
  have y2 := h.blk.cell_ (i := 2) rfl
  have q1 := h.num.cell_ (rowI_get S.num hi)
  have q2 := h.low.cell_ (rowI_get S.low hi)
  have hd : (S.low i != S.num i) = false := by simpa using hl
  have hc0 : S.stk.length + S.cnt = A0.length + 1 + B0.length + S.cnt := by rw [hst]; simp; omega
  obtain ⟨p, bN, bL, bO, bK⟩ := B
  dsimp only at *
  replace h := Lib.hid h
  replace hq := Lib.hid hq
  replace hqn := Lib.hid hqn
  replace hF0 := Lib.hid hF0
  replace hlt := Lib.hid hlt
  replace hst := Lib.hid hst
  replace hiB := Lib.hid hiB
  replace hS0 := Lib.hid hS0
  replace hl := Lib.hid hl
  go_enter Try.func30, Try.ntmps30
  go_wp2_with (go_quiet (fail))
  go_loopw [] (fun wr => PopRel w ⟨p, bN, bL, bO, bK⟩ A n c T d S q A0 B0 i wr) (fun wr => stkLen wr p)
  case atStart => exact ⟨B0.length, Nat.le_refl _, Fin.mod0 hF0.out ((Mod.refl none_ w).drewN _), hq.out.drewN _, (Mod.refl _ w).drewN _⟩
  case round =>
    obtain ⟨r, hr, hF, hB, hm⟩ := hrel
    have hcase : ∃ (X : List Nat) (k : Nat), A0 ++ i :: B0.take r = X ++ [k] ∧ X.length = A0.length + r ∧ ((r = 0 ∧ k = i ∧ X = A0 ∧ B0.drop r = B0) ∨ (∃ r', r = r' + 1 ∧ k ∈ B0 ∧ X = A0 ++ i :: B0.take r' ∧ k :: B0.drop r = B0.drop r')) ∧ k < n := by
      rcases r with _ | r'
      · exact ⟨A0, i, by simp, rfl, .inl ⟨rfl, rfl, rfl, rfl⟩, hi⟩
      · have hlt' : r' < B0.length := by omega
        refine ⟨A0 ++ i :: B0.take r', B0[r'], ?_, ?_, .inr ⟨r', rfl, List.getElem_mem hlt', rfl, ?_⟩, ?_⟩
        · rw [List.take_succ_eq_append_getElem hlt']; simp
        · simp; omega
        · rw [← List.drop_eq_getElem_cons hlt']
        · exact hlt.out _ (by rw [hst.out]; simp)
    obtain ⟨X, k, hX, hXl, hcs, hkn⟩ := hcase
    have hC : (B0.drop r).length = B0.length - r := by simp
    rw [hX] at hF
    generalize B0.drop r = C at *
    have hsl : stkLen wr p = X.length + 1 := by
      have := hF.len
      rw [this]
      simp [popK]
    have e0 : (popK S (X ++ [k]) C).stk.length = X.length + 1 := by simp [popK]
    have x4 := hF.blk.cell_ (i := 4) rfl
    rw [e0] at x4
    have x6 := hF.blk.cell_ (i := 6) rfl
    have x3 := hF.blk.cell_ (i := 3) rfl
    have x5 := hF.blk.cell_ (i := 5) rfl
    have z4 := hF.blk.frozen 4
    have z6 := hF.blk.frozen 6
    have xo := hF.on.cell_ (rowT_get _ hkn)
    have zo := hF.on.frozen k
    have xk := hF.knot.cell_ (rowI_get _ hkn)
    have zk := hF.knot.frozen k
    have xq := hB.cell_ (i := 0) rfl
    have zq := hB.frozen 0
    obtain ⟨b, hb, _, hsk⟩ : ∃ b, T = some ⟨b, 0, none⟩ ∧ True ∧ wr.cell? ⟨b, X.length, none⟩ = some (.int .i64 (k : Int)) := by
      obtain ⟨g, cur, hT, hg, _, hcur⟩ := Ow.form hF.stk (by omega)
      refine ⟨g, hT, trivial, ?_⟩
      have := Ow.cell_ hF.stk hT X.length (by omega)
      rw [this]
      simp [popK, zs, ivs]
    have pO : ¬ p = bO := hF.blk.ne_ hF.on (by decide)
    have pK : ¬ p = bK := hF.blk.ne_ hF.knot (by decide)
    have Ok : ¬ bO = bK := hF.on.ne_ hF.knot (by decide)
    have pq : ¬ q = p := hB.ne_ hF.blk (by decide)
    have qO : ¬ q = bO := hB.ne_ hF.on (by decide)
    have qK : ¬ q = bK := hqn.out.2.2.1
    have ex6 : ((popK S (X ++ [k]) C).cnt : Int) = ((S.cnt + C.length : Nat) : Int) := rfl
    rw [ex6] at x6
    have hcb : S.cnt + C.length ≤ 1000000 := by omega
    generalize (popK S (X ++ [k]) C).on k = o1 at xo
    generalize (popK S (X ++ [k]) C).knot k = o2 at xk
    subst hb
    have hXb : X.length ≤ 1000000 := by omega
    have hxd : (X.length : Int) ≤ (d : Int) := by have := hF.stk.2.1; omega
    have hxm : (X.length : Int) ≤ 1000000 := by omega
    have hxw : IntKind.i64.wrap (X.length : Int) = (X.length : Int) := by rw [IntKind.wrap_i64]; omega
    generalize hxl : X.length = xl at *
    generalize hcn : S.cnt + C.length = cn at *
    clear ex6 e0
    replace hF := Lib.hid hF
    replace hB := Lib.hid hB
    replace hm := Lib.hid hm
    replace hX := Lib.hid hX
    replace hC := Lib.hid hC
    replace hsl := Lib.hid hsl
    replace hxl := Lib.hid hxl
    replace hcn := Lib.hid hcn
    replace hXl := Lib.hid hXl
    by_cases hki : k = i
    · subst hki
      have hdk : ((k : Int) == (k : Int)) = true := by simp
      replace hcs := Lib.hid hcs
      go_wp2_with (go_quiet (fail))
      go_region
      all_goals go_wp2_with (go_quiet (fail))
      all_goals go_region
      all_goals go_wp2_with (go_quiet (fail))
      go_end0
      rcases hcs.out with ⟨_, _, h8, h9⟩ | ⟨r', _, h9, _⟩
      · have hP := pop_mem (Fin.mod0 hF.out ((Mod.refl none_ wr).drewN (nq + 1))) hxl.out hcn.out
        rw [h8, h9] at hP
        refine ⟨rfl, ?_, ?_, ?_⟩
        · exact (hP.mod (F := fun j => j = q) ((Mod.refl (fun j => j = q) _).setCell (p := ⟨q, 0, none⟩) (.inl rfl) _) (fun e => pq e.symm) (fun e => hqn.out.1 e.symm) (fun e => hqn.out.2.1 e.symm) (fun e => qO e.symm) (fun e => qK e.symm) (fun j hj e => hqn.out.2.2.2 (e ▸ hj))).mod0 ((Mod.refl none_ _).drew)
        · have := (((((hB.out.drewN (nq + 1)).far (p := ⟨p, 4, none⟩) pq (.slice (some ⟨b, 0, none⟩) xl d)).far (p := ⟨p, 6, none⟩) pq (.int .i64 ((cn : Int) + 1))).far (p := ⟨bO, k, none⟩) qO (.bool false)).far (p := ⟨bK, k, none⟩) qK (.int .i64 (S.id : Int))).set_ 0 (.int .i64 ((S.id : Int) + 1))
          exact (by simpa using this : Blk _ q 3 #[.int .i64 ((S.id + 1 : Nat) : Int)]).drew
        · exact ((((((hm.out.drewN (nq + 1)).setCell (p := ⟨p, 4, none⟩) (.inl (.inl rfl)) _).setCell (p := ⟨p, 6, none⟩) (.inl (.inl rfl)) _).setCell (p := ⟨bO, k, none⟩) (.inl (.inr (.inl rfl))) _).setCell (p := ⟨bK, k, none⟩) (.inl (.inr (.inr (.inl rfl)))) _).setCell (p := ⟨q, 0, none⟩) (.inl (.inr (.inr (.inr rfl)))) _).drew
      · exact absurd h9 hiB.out
    · have hdk : ((k : Int) == (i : Int)) = false := by simp; omega
      replace hcs := Lib.hid hcs
      go_wp2_with (go_quiet (fail))
      go_region
      all_goals go_wp2_with (go_quiet (fail))
      all_goals go_region
      all_goals go_wp2_with (go_quiet (fail))
      go_roundw
      case rel =>
        rcases hcs.out with ⟨_, h9, _⟩ | ⟨r', h8, h9, h10, h11⟩
        · exact absurd h9 hki
        · have hP := pop_mem (Fin.mod0 hF.out ((Mod.refl none_ wr).drewN (nq + 1))) hxl.out hcn.out
          refine ⟨r', by omega, ?_, ?_, ?_⟩
          · rw [← h10, ← h11]
            exact hP.mod0 (Mod.refl none_ _).drew
          · exact (((((hB.out.drewN (nq + 1)).far (p := ⟨p, 4, none⟩) pq _).far (p := ⟨p, 6, none⟩) pq _).far (p := ⟨bO, k, none⟩) qO _).far (p := ⟨bK, k, none⟩) qK _).drew
          · exact (((((hm.out.drewN (nq + 1)).setCell (p := ⟨p, 4, none⟩) (.inl (.inl rfl)) _).setCell (p := ⟨p, 6, none⟩) (.inl (.inl rfl)) _).setCell (p := ⟨bO, k, none⟩) (.inl (.inr (.inl rfl))) _).setCell (p := ⟨bK, k, none⟩) (.inl (.inr (.inr (.inl rfl)))) _).drew
      case measure =>
        have hP := (pop_mem (Fin.mod0 hF.out ((Mod.refl none_ wr).drewN (nq + 1))) hxl.out hcn.out).mod0 ((Mod.refl none_ _).drew)
        have h3 := hP.len
        have h2 : (popK S X (k :: C)).stk.length = xl := hxl.out
        rw [h2] at h3
        have h4 := hsl.out
        exact Nat.lt_of_le_of_lt (Nat.le_of_eq h3) (by rw [h4]; exact Nat.lt_succ_self _)
end
end Go.Proofs.Ytenlpklgpcnfiaa
