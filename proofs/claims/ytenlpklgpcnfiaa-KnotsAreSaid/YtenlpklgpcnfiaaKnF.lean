/-
  Knots: the finder in memory; a place is entered.
-/
import Derived.Test.YtenlpklgpcnfiaaKnM
import Derived.RegionTactic
import Derived.BigRegion
import Derived.Deep.QuietTactic
import Derived.BigQuiet
import Derived.Deep.RegionLaw
namespace Go.Proofs.Ytenlpklgpcnfiaa
set_option linter.unusedVariables false
open Go.RowKit
/-- the finder: where its rows lie -/
structure Fin' where
  p : Nat
  N : Nat
  L : Nat
  O : Nat
  K : Nat
def FD : TypeId := 50
structure Fin (w : World) (B : Fin') (A : Option Addr) (n c : Nat) (T : Option Addr) (d : Nat) (S : KS) : Prop where
  blk : Blk w B.p 50 #[.slice A n c, .slice (some ⟨B.N, 0, none⟩) n n, .slice (some ⟨B.L, 0, none⟩) n n, .slice (some ⟨B.O, 0, none⟩) n n, .slice T S.stk.length d, .slice (some ⟨B.K, 0, none⟩) n n, .int .i64 (S.cnt : Int)]
  num : Blk w B.N 3 (rowI n S.num)
  low : Blk w B.L 3 (rowI n S.low)
  on : Blk w B.O 4 (rowT n S.on)
  knot : Blk w B.K 3 (rowI n S.knot)
  stk : OwZ w T S.stk.length d (zs S.stk)
  nl : B.N ≠ B.L
  nk : B.N ≠ B.K
  lk : B.L ≠ B.K
  tn : ¬ fp T B.N
  tl : ¬ fp T B.L
  tk : ¬ fp T B.K
def EnF (B : Fin') (T : Option Addr) : Nat → Prop := fun k => k = B.p ∨ k = B.N ∨ k = B.L ∨ k = B.O ∨ fp T k
theorem results_cell1 {fn : Func} {p : Tmp} {ty : TypeId} (h : fn.results = #[.cell p ty]) (tmps : Array Value) (w : World) (g : Nat) (cs : Array Value)
    (hp : tmps.getD p undef = .pointer (some ⟨g, 0, none⟩)) (hl : (loadVar ty ⟨g, 0, none⟩).run Try.prog w = .ok (.agg cs) w) :
    (results fn tmps).run Try.prog w = .ok (.agg cs) w := by
  have hp' : tmps[p]?.getD undef = .pointer (some ⟨g, 0, none⟩) := by simpa using hp
  simp [results, h, hp', asAddr, hl]
theorem frame_size : (Try.prog.info? 56).map (·.size) = some 2 := by kernel_rfl
theorem ret_frame {fn : Func} {p : Tmp} (h : fn.results = #[.cell p 56]) {a : Act} {w : World} {R : Ending → World → Prop} (g : Nat) (cs : Array Value) (hp : a.tmps.getD p undef = .pointer (some ⟨g, 0, none⟩))
    (hg : Blk w g 56 cs) (hs : cs.size = 2) (hd : a.defers = []) (hR : R (.returned (.agg cs)) w) : bodyPost Try.prog fn R .ret a w :=
  bodyPost_ret (results_cell1 h a.tmps w g cs hp (run_loadVar_row w g _ _ cs _ _ hg Try.underlying56 rfl (by rw [hs]; exact frame_size))) hd hR
set_option maxRecDepth 100000 in
set_option maxHeartbeats 4000000 in
theorem enter_ok (w : World) (B : Fin') (A : Option Addr) (n c : Nat) (T : Option Addr) (d : Nat) (S : KS) (h : Fin w B A n c T d S) (i : Nat) (hi : i < n) (hn : n ≤ 1000000) (hs : S.stk.length + S.cnt ≤ 1000000) :
    Calls Try.prog 29 #[.pointer (some ⟨B.p, 0, none⟩), .int .i64 (i : Int)] w fun e w' => e = .returned (.agg #[.int .i64 (i : Int), .int .i64 0]) ∧
      ∃ T' d', Fin w' B A n c T' d' (enterK S i) ∧ Mod (EnF B T) w w' ∧ (T' = T ∨ ∃ g, T' = some ⟨g, 0, none⟩ ∧ w.heap.size ≤ g) := by
  obtain ⟨h1, h2, h3, h4, h5, h6, h7, h8, h9, h10, h11, h12⟩ := h
  have y0 := h1.cell_ (i := 0) rfl
  have y1 := h1.cell_ (i := 1) rfl
  have y2 := h1.cell_ (i := 2) rfl
  have y3 := h1.cell_ (i := 3) rfl
  have y4 := h1.cell_ (i := 4) rfl
  have y6 := h1.cell_ (i := 6) rfl
  have z4 := h1.frozen 4
  have q1 := h2.cell_ (rowI_get S.num hi)
  have q2 := h3.cell_ (rowI_get S.low hi)
  have q3 := h4.cell_ (rowT_get S.on hi)
  have v1 := h2.frozen i
  have v2 := h3.frozen i
  have v3 := h4.frozen i
  have pN : ¬ B.p = B.N := h1.ne_ h2 (by decide)
  have pL : ¬ B.p = B.L := h1.ne_ h3 (by decide)
  have pO : ¬ B.p = B.O := h1.ne_ h4 (by decide)
  have oN : ¬ B.O = B.N := h4.ne_ h2 (by decide)
  have oL : ¬ B.O = B.L := h4.ne_ h3 (by decide)
  have l1 := h1.lt
  have l2 := h2.lt
  have l3 := h3.lt
  have l4 := h4.lt
  obtain ⟨p, bN, bL, bO, bK⟩ := B
  dsimp only at *
  replace h1 := Lib.hid h1
  replace h2 := Lib.hid h2
  replace h3 := Lib.hid h3
  replace h4 := Lib.hid h4
  replace h5 := Lib.hid h5
  replace h6 := Lib.hid h6
  replace h10 := Lib.hid h10
  replace h11 := Lib.hid h11
  replace h12 := Lib.hid h12
  go_enter Try.func29, Try.ntmps29
  go_wp2_with fail
  go_region
  have hr : ∀ x : Int, ∃ w1 : World, w1 = (((w.setCell { block := bN, off := i } (Value.int IntKind.i64 x)).setCell { block := bL, off := i } (Value.int IntKind.i64 x)).alloc (Obj.cells #[Value.int IntKind.i64 0, Value.int IntKind.i64 0] 56)).drew ∧
      Mod (fun k => k = bN ∨ k = bL) w w1 ∧ Blk w1 bN 3 (rowI n (upd S.num i x)) ∧ Blk w1 bL 3 (rowI n (upd S.low i x)) ∧ Blk w1 w.heap.size 56 #[.int .i64 0, .int .i64 0] ∧ w1.heap.size = w.heap.size + 1 := fun x => ⟨_, rfl,
    ((((Mod.refl (fun k => k = bN ∨ k = bL) w).setCell (p := ⟨bN, i, none⟩) (.inl (.inl rfl)) _).setCell (p := ⟨bL, i, none⟩) (.inl (.inr rfl)) _).alloc _).drew,
    by rw [← rowI_set]; exact (((h2.out.set_ i _).far h7 _).alloc _).drew,
    by rw [← rowI_set]; exact (((h3.out.far (fun e => h7 e.symm) _).set_ i _).alloc _).drew,
    by have := (Blk.new ((w.setCell { block := bN, off := i } (Value.int IntKind.i64 x)).setCell { block := bL, off := i } (Value.int IntKind.i64 x)) 56 #[Value.int IntKind.i64 0, Value.int IntKind.i64 0]).drew; simpa [World.setCell] using this,
    by simp [World.setCell]⟩
  obtain ⟨w1, hw1, m1, b2, b3, bf, hsz⟩ := hr (↑S.stk.length + ↑S.cnt)
  rw [← hw1]
  clear hw1 hr
  have hp3 : ¬ (p = bN ∨ p = bL) := fun he => he.elim pN pL
  have ho3 : ¬ (bO = bN ∨ bO = bL) := fun he => he.elim oN oL
  have hk3 : ¬ (bK = bN ∨ bK = bL) := fun he => he.elim (fun e => h8 e.symm) (fun e => h9 e.symm)
  have hT3 : ∀ k, fp T k → ¬ (k = bN ∨ k = bL) := fun k hk he => he.elim (fun e => h10.out (e ▸ hk)) (fun e => h11.out (e ▸ hk))
  have b1 := h1.out.mod m1 hp3
  have b4 := h4.out.mod m1 ho3
  have b5 := h5.out.mod m1 hk3
  have b6 : OwZ w1 T S.stk.length d (zs S.stk) := Ow.mod h6.out m1 hT3
  clear y0 y1 y2 y3 y4 y6 z4 q1 q2 q3 v1 v2 v3
  have y0 := b1.cell_ (i := 0) rfl
  have y3 := b1.cell_ (i := 3) rfl
  have y4 := b1.cell_ (i := 4) rfl
  have q3 := b4.cell_ (rowT_get S.on hi)
  have v3 := b4.frozen i
  have hpf : ¬ p = w.heap.size := by omega
  have hOf : ¬ bO = w.heap.size := by omega
  have g1 := b1.lt
  have g4 := b4.lt
  have hO2 := b4.set_ i (.bool true)
  have b1o := b1.far pO (p := ⟨bO, i, none⟩) (.bool true)
  have bfo := bf.far (fun e => hOf e.symm) (p := ⟨bO, i, none⟩) (.bool true)
  have m2 := (Mod.refl (fun k => k = bO) w1).setCell (p := ⟨bO, i, none⟩) (.inl rfl) (.bool true)
  have hTO : ¬ fp T bO := Ow.ne_blk b6 b4 (by decide)
  have hTp : ¬ fp T p := Ow.ne_blk b6 b1 (by decide)
  have hTf : ¬ fp T w.heap.size := Ow.ne_blk b6 bf (by decide)
  have b6o : OwZ (w1.setCell ⟨bO, i, none⟩ (.bool true)) T S.stk.length d (zs S.stk) := Ow.mod b6 m2 (fun k hk e => hTO (e ▸ hk))
  replace m1 := Lib.hid m1
  replace b2 := Lib.hid b2
  replace b3 := Lib.hid b3
  replace bf := Lib.hid bf
  replace hsz := Lib.hid hsz
  replace hp3 := Lib.hid hp3
  replace ho3 := Lib.hid ho3
  replace hk3 := Lib.hid hk3
  replace hT3 := Lib.hid hT3
  replace b1 := Lib.hid b1
  replace b4 := Lib.hid b4
  replace b5 := Lib.hid b5
  replace b6 := Lib.hid b6
  replace hO2 := Lib.hid hO2
  replace b1o := Lib.hid b1o
  replace bfo := Lib.hid bfo
  replace m2 := Lib.hid m2
  replace hTO := Lib.hid hTO
  replace hTp := Lib.hid hTp
  replace hTf := Lib.hid hTf
  replace b6o := Lib.hid b6o
  go_wp2_with (at_builtin; go_loud (refine appZ rfl (.tmp 47) (.tmp 49) rfl rfl (Ow.mod0 b6o.out ((Mod.refl none_ _).alloc _)) rfl (show RdI _ _ 1 [(i : Int)] from rdi_one' _ _ w1.heap.size (by simp [World.setCell]) _) (by omega) ?_; intro T' d' w6 ho6 hm6 hA6; have c6 := (Blk.alloc b1o.out _).mod hm6 hTp.out; have f6 := (Blk.alloc bfo.out _).mod hm6 hTf.out; have x4 := c6.cell_ (i := 4) rfl; have u4 := c6.frozen 4; have xf0 := f6.cell_ (i := 0) rfl; have xf1 := f6.cell_ (i := 1) rfl; have uf0 := f6.frozen 0; have uf1 := f6.frozen 1; replace c6 := Lib.hid c6; replace f6 := Lib.hid f6; replace ho6 := Lib.hid ho6; replace hm6 := Lib.hid hm6; replace hA6 := Lib.hid hA6))
  have hfr : Blk (((w6.setCell ⟨p, 4, none⟩ (Value.slice T' (S.stk.length + 1) d')).setCell ⟨w.heap.size, 0, none⟩ (.int .i64 i)).setCell ⟨w.heap.size, 1, none⟩ (.int .i64 0)) w.heap.size 56 #[.int .i64 (i : Int), .int .i64 0] := by
    have := (((f6.out.far (p := ⟨p, 4, none⟩) (fun e => hpf e.symm) (Value.slice T' (S.stk.length + 1) d')).set_ 0 (.int .i64 (i : Int))).set_ 1 (.int .i64 0))
    simpa using this
  refine ret_frame rfl w.heap.size _ rfl hfr rfl rfl ?_
  have hT' : ∀ k, k < w.heap.size → ¬ fp T k → ¬ fp T' k := by
    intro k hk hn hT
    rcases hA6.out with e | e
    · exact hn (e ▸ hT)
    · obtain ⟨a, ha, rfl⟩ := hT
      rw [e] at ha
      cases ha
      have := hsz.out
      simp [World.setCell] at hk
      omega
  have e1 : (Mod (EnF ⟨p, bN, bL, bO, bK⟩ T) w w6) := by
    refine Mod.trans ((((m1.out.mono ?_).setCell (p := ⟨bO, i, none⟩) (.inl ?_) _).alloc _)) (hm6.out.mono ?_)
    · rintro k (rfl | rfl)
      · exact .inr (.inl rfl)
      · exact .inr (.inr (.inl rfl))
    · exact .inr (.inr (.inr (.inl rfl)))
    · exact fun k hk => .inr (.inr (.inr (.inr hk)))
  have e2 : ∀ {g : Nat} {t : TypeId} {cs : Array Value}, Blk w6 g t cs → g ≠ p → g ≠ w.heap.size → Blk (((w6.setCell ⟨p, 4, none⟩ (Value.slice T' (S.stk.length + 1) d')).setCell ⟨w.heap.size, 0, none⟩ (.int .i64 i)).setCell ⟨w.heap.size, 1, none⟩ (.int .i64 0)) g t cs :=
    fun h h1 h2 => ((h.far (p := ⟨p, 4, none⟩) h1 _).far (p := ⟨w.heap.size, 0, none⟩) h2 _).far (p := ⟨w.heap.size, 1, none⟩) h2 _
  have ek : ∀ {g : Nat} {t : TypeId} {cs : Array Value}, Blk w1 g t cs → g ≠ bO → ¬ fp T g → Blk w6 g t cs := fun h h1 h2 => ((h.far (p := ⟨bO, i, none⟩) h1 _).alloc _).mod hm6.out h2
  refine ⟨rfl, T', d', ⟨?_, ?_, ?_, ?_, ?_, ?_, h7, h8, h9, hT' _ l2 h10.out, hT' _ l3 h11.out, hT' _ h5.out.lt h12.out⟩, ?_, ?_⟩
  · have := ((c6.out.set_ 4 (Value.slice T' (S.stk.length + 1) d')).far (p := ⟨w.heap.size, 0, none⟩) hpf (.int .i64 i)).far (p := ⟨w.heap.size, 1, none⟩) hpf (.int .i64 0)
    simpa [enterK] using this
  · exact e2 (ek b2.out (fun e => oN e.symm) h10.out) (fun e => pN e.symm) (Nat.ne_of_lt h2.out.lt)
  · exact e2 (ek b3.out (fun e => oL e.symm) h11.out) (fun e => pL e.symm) (Nat.ne_of_lt h3.out.lt)
  · have := hO2.out
    rw [rowT_set] at this
    exact e2 (((this.alloc _).mod hm6.out hTO.out)) (fun e => pO e.symm) (Nat.ne_of_lt h4.out.lt)
  · exact e2 (ek b5.out (fun e => (Blk.ne_ b4.out b5.out (by decide)) e.symm) h12.out) (fun e => (Blk.ne_ b1.out b5.out (by decide)) e.symm) (Nat.ne_of_lt h5.out.lt)
  · have hm9 : Mod (fun k => k = p ∨ k = w.heap.size) w6 (((w6.setCell ⟨p, 4, none⟩ (Value.slice T' (S.stk.length + 1) d')).setCell ⟨w.heap.size, 0, none⟩ (.int .i64 i)).setCell ⟨w.heap.size, 1, none⟩ (.int .i64 0)) :=
      (((Mod.refl _ w6).setCell (p := ⟨p, 4, none⟩) (.inl (.inl rfl)) _).setCell (p := ⟨w.heap.size, 0, none⟩) (.inl (.inr rfl)) _).setCell (p := ⟨w.heap.size, 1, none⟩) (.inl (.inr rfl)) _
    have := Ow.mod ho6.out hm9 (fun k hk he => by
      rcases he with rfl | rfl
      · exact (Ow.ne_blk ho6.out c6.out (by decide)) hk
      · exact (Ow.ne_blk ho6.out f6.out (by decide)) hk)
    simpa [enterK, zs, OwZ] using this
  · exact ((e1.setCell (p := ⟨p, 4, none⟩) (.inl (.inl rfl)) _).setCell (p := ⟨w.heap.size, 0, none⟩) (.inr (Nat.le_refl _)) _).setCell (p := ⟨w.heap.size, 1, none⟩) (.inr (Nat.le_refl _)) _
  · rcases hA6.out with e | e
    · exact .inl e
    · refine .inr ⟨_, e, ?_⟩
      have := hsz.out
      simp [World.setCell]
      omega
end Go.Proofs.Ytenlpklgpcnfiaa
