/-
  Knots: the rows of the finder are made, in whatever order.
-/
import Derived.Test.YtenlpklgpcnfiaaKnSe
import Derived.Test.YtenlpklgpcnfiaaKnRp
import Derived.Deep.CutRange
namespace Go.Proofs.Ytenlpklgpcnfiaa
set_option linter.unusedVariables false
open Go.RowKit
/-- what has been made so far -/
structure Mk (w0 : World) (n : Nat) (x N L O K : Option Nat) (w : World) : Prop where
  fm : Mod none_ w0 w
  fx : ∀ b, x = some b → w.cell? ⟨b, 0, none⟩ = some mOne
  fN : ∀ b, N = some b → Blk w b 3 (rowI n fun _ => -1) ∧ w0.heap.size ≤ b
  fL : ∀ b, L = some b → Blk w b 3 (rowI n fun _ => 0) ∧ w0.heap.size ≤ b
  fO : ∀ b, O = some b → Blk w b 4 (rowT n fun _ => false) ∧ w0.heap.size ≤ b
  fK : ∀ b, K = some b → Blk w b 3 (rowI n fun _ => 0) ∧ w0.heap.size ≤ b
  nl : ∀ a b, N = some a → L = some b → a ≠ b
  nk : ∀ a b, N = some a → K = some b → a ≠ b
  lk : ∀ a b, L = some a → K = some b → a ≠ b
theorem Mk.zero (w0 : World) (n : Nat) : Mk w0 n none none none none none w0.drew :=
  ⟨(Mod.refl _ _).drew, fun b h => (by cases h), fun b h => (by cases h), fun b h => (by cases h), fun b h => (by cases h), fun b h => (by cases h), fun a b h => (by cases h), fun a b h => (by cases h), fun a b h => (by cases h)⟩
section
variable {w0 w w' : World} {n : Nat} {x N L O K : Option Nat}
theorem Mk.mod (h : Mk w0 n x N L O K w) (hm : Mod none_ w w') : Mk w0 n x N L O K w' :=
  ⟨h.fm.trans hm, fun b e => hm.cell_some (h.fx b e) (fun h => h), fun b e => ⟨(h.fN b e).1.mod hm (fun h => h), (h.fN b e).2⟩, fun b e => ⟨(h.fL b e).1.mod hm (fun h => h), (h.fL b e).2⟩, fun b e => ⟨(h.fO b e).1.mod hm (fun h => h), (h.fO b e).2⟩, fun b e => ⟨(h.fK b e).1.mod hm (fun h => h), (h.fK b e).2⟩, h.nl, h.nk, h.lk⟩
theorem Mk.setX (h : Mk w0 n none N L O K w) (hm : Mod none_ w w') (b : Nat) (hb : w'.cell? ⟨b, 0, none⟩ = some mOne) : Mk w0 n (some b) N L O K w' := by
  have k := h.mod hm
  exact ⟨k.fm, fun a e => by cases e; exact hb, k.fN, k.fL, k.fO, k.fK, k.nl, k.nk, k.lk⟩
theorem Mk.setN (h : Mk w0 n x none L O K w) (hm : Mod none_ w w') (b : Nat) (hb : Blk w' b 3 (rowI n fun _ => -1)) (hf : w.heap.size ≤ b) : Mk w0 n x (some b) L O K w' := by
  have k := h.mod hm
  exact ⟨k.fm, k.fx, fun a e => by cases e; exact ⟨hb, Nat.le_trans h.fm.size hf⟩, k.fL, k.fO, k.fK, fun a c e1 e2 => by cases e1; have := (h.fL c e2).1.lt; omega, fun a c e1 e2 => by cases e1; have := (h.fK c e2).1.lt; omega, k.lk⟩
theorem Mk.setL (h : Mk w0 n x N none O K w) (hm : Mod none_ w w') (b : Nat) (hb : Blk w' b 3 (rowI n fun _ => 0)) (hf : w.heap.size ≤ b) : Mk w0 n x N (some b) O K w' := by
  have k := h.mod hm
  exact ⟨k.fm, k.fx, k.fN, fun a e => by cases e; exact ⟨hb, Nat.le_trans h.fm.size hf⟩, k.fO, k.fK, fun a c e1 e2 => by cases e2; have := (h.fN a e1).1.lt; omega, k.nk, fun a c e1 e2 => by cases e1; have := (h.fK c e2).1.lt; omega⟩
theorem Mk.setO (h : Mk w0 n x N L none K w) (hm : Mod none_ w w') (b : Nat) (hb : Blk w' b 4 (rowT n fun _ => false)) (hf : w.heap.size ≤ b) : Mk w0 n x N L (some b) K w' := by
  have k := h.mod hm
  exact ⟨k.fm, k.fx, k.fN, k.fL, fun a e => by cases e; exact ⟨hb, Nat.le_trans h.fm.size hf⟩, k.fK, k.nl, k.nk, k.lk⟩
theorem Mk.setK (h : Mk w0 n x N L O none w) (hm : Mod none_ w w') (b : Nat) (hb : Blk w' b 3 (rowI n fun _ => 0)) (hf : w.heap.size ≤ b) : Mk w0 n x N L O (some b) w' := by
  have k := h.mod hm
  exact ⟨k.fm, k.fx, k.fN, k.fL, k.fO, fun a e => by cases e; exact ⟨hb, Nat.le_trans h.fm.size hf⟩, k.nl, fun a c e1 e2 => by cases e2; have := (h.fN a e1).1.lt; omega, fun a c e1 e2 => by cases e2; have := (h.fL a e1).1.lt; omega⟩
end
section
variable {ops : Array Oper} {o : Oper} {a : Act} {w w0 : World} {K' : Act → World → Prop} {Q : Exit → Act → World → Prop} {E : Prop} {n : Nat} {x N L O K : Option Nat}
theorem step_make (hgd : o.guard = none) (y : Operand) (t e : TypeId) (z : Value) (bytes : Nat) (ho : o.op = .makeSlice t y y) (hy : a.eval y = .int .i64 (n : Int))
    (ht : Try.prog.underlying t = some (.slice e)) (hinfo : (Try.prog.info? e).map (fun i => (i.zero, i.size, i.bytes)) = some (some z, 1, bytes)) (hz1 : z.cells = #[z]) (hbytes : bytes * n ≤ 281474976710656) (h63 : n ≤ 9223372036854775807)
    (h : K' (a.put o.dst (.slice (some ⟨w.heap.size, 0, none⟩) n n)) (w.alloc (.cells (madeCells #[z] n) e))) :
    if Region.wanted o (yielded ops a.tmps) = true then Oper.wp Try.prog o a w K' Q else E := by
  have hw : Region.wanted o (yielded ops a.tmps) = true := by simp [Region.wanted, hgd]
  rw [if_pos hw]
  have hrun := make_run (P := Try.prog) w t e z bytes n ht hinfo hz1 hbytes h63
  unfold Oper.wp execOp
  simp only [ho, hy, Sem.run_bind, Sem.run_pure, hrun]
  exact h
theorem mk_build (h : Hid (Mk w0 n none N L O K w)) : Hid (Mk w0 n (some w.heap.size) N L O K (w.alloc (.cells #[.int .i64 (-1)] 3))) :=
  Lib.hid (h.out.setX ((Mod.refl _ w).alloc _) _ ((Blk.new w 3 #[mOne]).cell_ rfl))
/-- a row is made: behind names that the walk does not open -/
def mkA (w : World) : Nat := w.heap.size
def mkI (n : Nat) (w : World) : World := w.alloc (.cells (madeCells #[.int .i64 0] n) 3)
def mkT (n : Nat) (w : World) : World := w.alloc (.cells (madeCells #[.bool false] n) 4)
theorem mkI_run (w : World) (hn : n ≤ 1000000) : (Instr.makeSlice 28 (.int .i64 (n : Int)) (.int .i64 (n : Int))).run Try.prog w = .ok (.slice (some ⟨mkA w, 0, none⟩) n n) (mkI n w) :=
  make_run (P := Try.prog) w 28 3 _ 8 n Try.underlying28 intinfo rfl (by omega) (by omega)
theorem mkT_run (w : World) (hn : n ≤ 1000000) : (Instr.makeSlice 23 (.int .i64 (n : Int)) (.int .i64 (n : Int))).run Try.prog w = .ok (.slice (some ⟨mkA w, 0, none⟩) n n) (mkT n w) :=
  make_run (P := Try.prog) w 23 4 _ 1 n Try.underlying23 boolinfo rfl (by omega) (by omega)
theorem mk_L (h : Hid (Mk w0 n x N none O K w)) : Hid (Mk w0 n x N (some (mkA w)) O K (mkI n w)) :=
  Lib.hid (h.out.setL ((Mod.refl _ w).alloc _) _ (by rw [← made_rowI]; exact Blk.new w _ _) (Nat.le_refl _))
theorem mk_K (h : Hid (Mk w0 n x N L O none w)) : Hid (Mk w0 n x N L O (some (mkA w)) (mkI n w)) :=
  Lib.hid (h.out.setK ((Mod.refl _ w).alloc _) _ (by rw [← made_rowI]; exact Blk.new w _ _) (Nat.le_refl _))
theorem mk_O (h : Hid (Mk w0 n x N L none K w)) : Hid (Mk w0 n x N L (some (mkA w)) K (mkT n w)) :=
  Lib.hid (h.out.setO ((Mod.refl _ w).alloc _) _ (by rw [← made_rowT]; exact Blk.new w _ _) (Nat.le_refl _))
theorem mk_swap (h : Hid (Mk w0 n x N L O K w)) : Hid (Mk w0 n x N K O L w) := by
  have k := h.out
  exact Lib.hid ⟨k.fm, k.fx, k.fN, k.fK, k.fO, k.fL, k.nk, k.nl, fun a b e1 e2 e => k.lk b a e2 e1 e.symm⟩
def MadeRel (w : World) (A : Option Addr) (n c : Nat) (f : Value) (W : World) : Prop :=
  ∃ B : Fin', f = .pointer (some ⟨B.p, 0, none⟩) ∧ Fin W B A n c none 0 S0 ∧ Mod none_ w W ∧ w.heap.size ≤ B.p ∧ w.heap.size ≤ B.N ∧ w.heap.size ≤ B.L ∧ w.heap.size ≤ B.O ∧ w.heap.size ≤ B.K
theorem made_ok {A : Option Addr} {c x N L O K : Nat} (h : Hid (Mk w0 n (some x) (some N) (some L) (some O) (some K) w)) :
    MadeRel w0 A n c (.pointer (some ⟨w.heap.size, 0, none⟩)) (w.alloc (.cells #[.slice A n c, .slice (some ⟨N, 0, none⟩) n n, .slice (some ⟨L, 0, none⟩) n n, .slice (some ⟨O, 0, none⟩) n n, .slice none 0 0, .slice (some ⟨K, 0, none⟩) n n, .int .i64 0] 50)) := by
  have k := h.out
  have h1 := k.fN N rfl
  have h2 := k.fL L rfl
  have h3 := k.fO O rfl
  have h4 := k.fK K rfl
  exact ⟨⟨w.heap.size, N, L, O, K⟩, rfl, ⟨Blk.new w _ _, h1.1.alloc _, h2.1.alloc _, h3.1.alloc _, h4.1.alloc _, Ow.nil _ _ _, k.nl _ _ rfl rfl, k.nk _ _ rfl rfl, k.lk _ _ rfl rfl, (fun ⟨a, ha, _⟩ => by cases ha), (fun ⟨a, ha, _⟩ => by cases ha), (fun ⟨a, ha, _⟩ => by cases ha)⟩, k.fm.alloc _, k.fm.size, h1.2, h2.2, h3.2, h4.2⟩
theorem repeat_mk {b : Nat} (h : Hid (Mk w0 n (some b) none L O K w)) (hn : n ≤ 1000000) : Calls Try.prog 25 #[.slice (some ⟨b, 0, none⟩) 1 1, .int .i64 (n : Int)] w fun e w' => ∃ r, e = .returned (.slice (some ⟨r, 0, none⟩) n n) ∧ Hid (Mk w0 n (some b) (some r) L O K w') := by
  refine (repeat_ok w b 1 (h.out.fx b rfl) n hn).mono ?_
  rintro e w' ⟨rfl, hb, hm⟩
  exact ⟨_, rfl, Lib.hid (h.out.setN hm _ hb (Nat.le_refl _))⟩
end
def NumPost (g : List (List Int)) (w : World) (n : Nat) (e : Ending) (w' : World) : Prop := ∃ K lab m, e = .returned (.tuple #[.slice (some ⟨K, 0, none⟩) n n, .int .i64 (m : Nat)]) ∧ Blk w' K 3 (rowI n lab) ∧ Lab g lab m ∧ m ≤ n ∧ Mod none_ w w'
set_option maxRecDepth 100000 in
set_option maxHeartbeats 8000000 in
theorem numbers_ok (w : World) (A : Option Addr) (n c : Nat) (ss : List SV) (g : List (List Int)) (hg : RdG w A n ss g) (hn : n ≤ 1000000) :
    Calls Try.prog 22 #[.slice A n c] w (NumPost g w n) := by
  have h0 := Lib.hid (Mk.zero w n)
  have hI := fun W => mkI_run (n := n) W hn
  have hT := fun W => mkT_run (n := n) W hn
  have h00 : Hid (Mk w n (some w.heap.size) none none none none (w.alloc (.cells #[.int .i64 (-1)] 3)).drew) := mk_build h0
  replace hg := Lib.hid hg
  go_enter Try.func22, Try.ntmps22
  go_wp2_with fail
  go_cut [4] from 7 to 22 (fun f W => MadeRel w A n c f W)
  case first =>
    go_region_law (go_simp; go_at_call 25; refine (repeat_mk (by repeat (first | assumption | with_reducible apply mk_build | with_reducible apply mk_L | with_reducible apply mk_K | with_reducible apply mk_O)) hn).mono ?_; rintro e W ⟨r, rfl, hr⟩)
    all_goals
      go_wp2_with fail
      go_meet
      case rel => exact made_ok (by repeat (first | assumption | exact mk_swap (by assumption) | with_reducible apply mk_build | with_reducible apply mk_L | with_reducible apply mk_K | with_reducible apply mk_O))
  case rest =>
    obtain ⟨B, rfl, hF, hm, hB1, hB2, hB3, hB4, hB5⟩ := hcut
    have hqs := hm.size
    have hZ : Scn.Ok ⟨w, B, A, n, c, wc.heap.size⟩ := ⟨hB1, hB2, hB3, hB4, hB5, hqs, by have := hF.num.lt; dsimp only; omega, by have := hF.low.lt; dsimp only; omega, by have := hF.knot.lt; dsimp only; omega⟩
    have hI0 : Idle ⟨w, B, A, n, c, wc.heap.size⟩ g (wc.alloc (.cells #[.int .i64 0] 3)) none 0 S0 := by
      refine ⟨⟨hF.mod0 ((Mod.refl none_ wc).alloc _), ?_, (fun ⟨a, ha, _⟩ => by cases ha), hm.alloc _, (fun a ha => by cases ha), Ow.nil _ _ _, (fun a ha => by cases ha)⟩, SP.zero g⟩
      exact Blk.new wc 3 #[.int .i64 0]
    have hgl := hg.out.len
    have kS := Lib.hid (fun W T d S (hI : Idle ⟨w, B, A, n, c, wc.heap.size⟩ g W T d S) (fr : Nat) (hfr : fr < n) (hfn : S.num fr = -1) => search_ok ⟨w, B, A, n, c, wc.heap.size⟩ hZ g ss hg.out hn W T d S hI fr hfr hfn)
    dsimp only at kS
    replace hF := Lib.hid hF
    replace hm := Lib.hid hm
    replace hZ := Lib.hid hZ
    replace hI0 := Lib.hid hI0
    replace hgl := Lib.hid hgl
    go_wp2_with fail
    go_loopg [6, 25] n (fun k s6 v wr => ∃ i : Nat, v = .int .i64 i ∧ i + k = n ∧ ∃ T d S, Idle ⟨w, B, A, n, c, wc.heap.size⟩ g wr T d S ∧ ∀ v, v < i → S.num v ≠ -1)
    case atStart => exact ⟨0, rfl, by omega, none, 0, S0, hI0.out, fun v h => absurd h (Nat.not_lt_zero v)⟩
    case round =>
      obtain ⟨i, rfl, hik, T, d, S, hI, hdone⟩ := hrel
      have hin : i ≤ n := by omega
      have x1 := hI.sch.fin.blk.cell_ (i := 1) rfl
      have x5 := hI.sch.fin.blk.cell_ (i := 5) rfl
      have xq := hI.sch.qb.cell_ (i := 0) rfl
      have hid : S.id ≤ n := by have := hI.sp.idc; have := hI.sp.few; rw [hgl.out] at this; omega
      dsimp only at x1 x5 xq
      by_cases hlt : i < n
      · have xn := hI.sch.fin.num.cell_ (rowI_get _ hlt)
        dsimp only at xn
        by_cases hn1 : S.num i = -1
        · have hd : (S.num i == -1) = true := by simp [hn1]
          have kS' := Lib.hid (kS.out wr T d S hI i hlt hn1)
          generalize S.num i = ni at *
          replace hI := Lib.hid hI
          replace hdone := Lib.hid hdone
          replace hn1 := Lib.hid hn1
          go_wp2_with fail
          with_reducible refine kS'.out.mono ?_
          rintro e w2 ⟨rfl, T2, d2, S2, hI2, hn2, hmo⟩
          dsimp only
          go_wp2_with fail
          go_roundg (gk - 1)
          case measure => omega
          case rel =>
            refine ⟨i + 1, by go_num, by omega, T2, d2, S2, hI2, fun v hv => ?_⟩
            by_cases e : v = i
            · subst e; exact hn2
            · exact hmo v (hdone.out v (by omega))
        · have hd : (S.num i == -1) = false := by simpa using hn1
          have hnx : Hid (∀ v, v < i + 1 → S.num v ≠ -1) := Lib.hid (fun v hv => by
            by_cases e : v = i
            · subst e; exact hn1
            · exact hdone v (by omega))
          generalize S.num i = ni at *
          replace hI := Lib.hid hI
          replace hdone := Lib.hid hdone
          replace hn1 := Lib.hid hn1
          go_wp2_with fail
          go_roundg (gk - 1)
          case measure => omega
          case rel => exact ⟨i + 1, by go_num, by omega, T, d, S, hI.out, hnx.out⟩
      · obtain rfl : i = n := by omega
        have hL := core_lab hI.sp.core (fun v hv => hdone v (by rw [hgl.out] at hv; exact hv))
        replace hI := Lib.hid hI
        replace hdone := Lib.hid hdone
        replace hL := Lib.hid hL
        go_wp2_with (go_quiet (fail))
        go_ret2
        exact ⟨B.K, S.knot, S.id, rfl, hI.out.sch.fin.knot.mod ((Mod.refl none_ wr).drewN _) (fun h => h), hL.out, hid, hI.out.sch.m0.drewN _⟩
end Go.Proofs.Ytenlpklgpcnfiaa
