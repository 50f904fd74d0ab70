import Derived.Test.YtdnbclhidpkpgaaGreatLp12
import Derived.Sort.Grow
import Derived.Shelf.SlSortCmp.WholeK
import Derived.Ground.SlsfProg
import Derived.Test.YtdnbclhidpkpgaaGreatProg
import Derived.Shelf.SlSortCmp.NoneTotal
/-
  slices.AppendSeq, slices.Collect of records, against whatever iterator. No condition.
-/
namespace Go.Proofs.YtdnbclhidpkpgaaGreat
set_option linter.unusedVariables false
set_option linter.unusedSimpArgs false
open Go.RowKit Go.Sort Go.Shelf
attribute [local go_sem] Oper.semAt_some
def apAssignR : Code := (Code.region 2 #[{ dst := some 5, op := Op.alloc 37, type := 0, pos := "iter.go:51", after := #[], guard := none }, { dst := none, op := Op.store 37 (Operand.tmp 5) (Operand.tmp 7), type := 0, pos := "iter.go:51", after := #[{ on := 0, ground := Ground.data }, { on := 0, ground := Ground.phase }], guard := none }] false)
def apBodyR : Code := (Code.block 1 (Code.region 3 #[{ dst := some 8, op := Op.load 41 (Operand.tmp 2), type := 41, pos := "iter.go:52", after := #[], guard := none }, { dst := some 9, op := Op.load 37 (Operand.tmp 5), type := 37, pos := "iter.go:52", after := #[], guard := none }, { dst := some 10, op := Op.buildSlice 41 1 #[(0, Operand.tmp 9)], type := 41, pos := "iter.go:52", after := #[{ on := 1, ground := Ground.data }], guard := none }, { dst := some 11, op := Op.call { callee := Callee.builtin Builtin.append, args := #[Operand.tmp 8, Operand.tmp 10], argTypes := #[41, 41] }, type := 41, pos := "iter.go:52", after := #[{ on := 0, ground := Ground.data }, { on := 2, ground := Ground.data }], guard := none }, { dst := none, op := Op.store 41 (Operand.tmp 2) (Operand.tmp 11), type := 0, pos := "iter.go:52", after := #[{ on := 3, ground := Ground.data }, { on := 3, ground := Ground.chain }, { on := 0, ground := Ground.phase }, { on := 1, ground := Ground.phase }, { on := 2, ground := Ground.phase }, { on := 3, ground := Ground.phase }], guard := none }] false))
def apRecR (fn : FuncId) (sv : Value) (Bs D : Nat) (st : LoopState) (pend : Option Code) : Loop :=
  { state := st, pending := pend, fn, tmps := #[.slice none 0 0, sv, .pointer (some ⟨Bs, 0, none⟩), undef, .slice none 0 0, undef, sv, undef, undef, undef, undef, undef, undef], params := #[7], assign := apAssignR, body := apBodyR, defers := D }
/-- BETWEEN TWO ROUNDS: the box holds a slice that owns, in a block of the call's own, what has come so far; IT IS nil JUST AS LONG AS NOTHING HAS COME; nothing that lay before the call has turned. -/
structure ApAtR (w0 : World) (fn : FuncId) (sv : Value) (Bs l D : Nat) (ss : List Rs) (W : World) : Prop where
  box : ∃ v, W.heap[Bs]? = some (.cells #[v] 41 (0, 0)) ∧ W.ownsRow w0.heap.size 37 17 v ss.length (rss ss) ∧ (v = .slice none 0 0 ↔ ss = [])
  L : W.heap[l]? = some (.loop (apRecR fn sv Bs D .ready none))
  K : W.heap[D]? = some (.deferred (some []))
  below : Below w0.heap.size w0 W

theorem ap_abidesR (w0 : World) (fn : FuncId) (sv : Value) (Bs l D B : Nat) (hB : w0.heap.size ≤ B) : AbidesFrom B (ApAtR w0 fn sv Bs l D) := fun s W W' row h hg hrow => by
  have hrow' : ∀ r, row = some r → ∃ o : Obj, W.heap[r]? = some o ∧ o.isWalk = true := fun r e => (hrow r e).2
  obtain ⟨v, hv, hr, hn⟩ := h.box
  exact ⟨⟨v, (grownBy_keeps hg hrow' hv rfl).trans hv, ownsRow_abides_a hr hg hrow', hn⟩, (grownBy_keeps hg hrow' h.L rfl).trans h.L, (grownBy_keeps hg hrow' h.K rfl).trans h.K,
    h.below.grown hg h.below.size (fun k e => Nat.le_trans hB (hrow k e).1)⟩

set_option maxRecDepth 100000 in
set_option maxHeartbeats 2000000 in
theorem apYieldR (F : Fence) (m : Nat) (w0 : World) (fn : FuncId) (hfn : F.fn fn) (sv : Value) (Bs l D : Nat) (hBl : Bs ≠ l) (hDl : D ≠ l) (hDB : D ≠ Bs) (h0B : w0.heap.size ≤ Bs) (h0l : w0.heap.size ≤ l)
    (N : Nat) (hN : N ≤ maxLen) (hNb : N * 192 ≤ 140737488355328) (ss : List Rs) (x : Rs) (W : World) (h : ApAtR w0 fn sv Bs l D ss W) (hlen : ss.length < N) :
    YieldAt F m Tryz.prog l #[rsV x] W fun e W' => e = .returned (.bool true) ∧ ApAtR w0 fn sv Bs l D (ss ++ [x]) W' ∧ KeepsWalks W W' := by
  obtain ⟨i0, hi, hz0, hz1, hz2⟩ := info_parts rcinfo
  obtain ⟨v, hv, hrow, _⟩ := h.box
  refine ⟨fn, #[.slice none 0 0, sv, .pointer (some ⟨Bs, 0, none⟩), undef, .slice none 0 0, undef, sv, rsV x, undef, undef, undef, undef, undef], apAssignR, apBodyR, by simpa [apRecR] using run_yield (P := Tryz.prog) (args := #[rsV x]) h.L rfl, roundIn_of_wpIn hfn ?_⟩
  have hl : l < W.heap.size := (Array.getElem?_eq_some_iff.1 h.L).1
  have hz := Lib.hid (Blk.new W 37 #[.int .i64 0, .int .i64 0, .int .i64 0, .int .i64 0, .int .i64 0, .int .i64 0, .int .i64 0, .int .i64 0, .string ⟨#[]⟩, .string ⟨#[]⟩, .int .i64 0, .slice none 0 0, .int .i64 0, .int .i64 0, .string ⟨#[]⟩, .bool false, .slice none 0 0])
  have hB0 : Bs < W.heap.size := (Array.getElem?_eq_some_iff.1 hv).1
  have hD0 : D < W.heap.size := (Array.getElem?_eq_some_iff.1 h.K).1
  unfold apAssignR rsV
  gi_wp2_with (first
    | (refine wpListIn_store_blk rfl 37 (.tmp 5) (.tmp 7) rfl W.heap.size 0 _ rfl rfl hz.out (by simp) rc_size (by rfl) #[.int .i64 x.r.i.r, .int .i64 x.r.i.n, .int .i64 x.r.bal, .int .i64 x.r.st, .int .i64 x.r.by_, .int .i64 x.r.e.o.c, .int .i64 x.r.e.o.s, .int .i64 x.r.e.o.k, .string (txt x.r.e.o.acct), .string (txt x.r.e.o.peer), .int .i64 x.r.e.o.sum, .slice x.L.a x.L.n x.L.c, .int .i64 x.r.e.o.per, .int .i64 x.r.e.o.hold, .string (txt x.r.e.o.note), .bool x.r.e.none, .slice x.D.a x.D.n x.D.c] rfl ?_
       intro W1 hb1 hm1
       have hgn := grown_new (World.grownBy_alloc W (.cells #[.int .i64 0, .int .i64 0, .int .i64 0, .int .i64 0, .int .i64 0, .int .i64 0, .int .i64 0, .int .i64 0, .string ⟨#[]⟩, .string ⟨#[]⟩, .int .i64 0, .slice none 0 0, .int .i64 0, .int .i64 0, .string ⟨#[]⟩, .bool false, .slice none 0 0] 37) none) (Nat.le_refl _) hm1
       have hL1 : W1.heap[l]? = some (.loop (apRecR fn sv Bs D .ready none)) := (hgn.block l hl (by simp)).trans h.L
       have hbr := run_beginRound (P := Tryz.prog) hL1 rfl)
    | fail)
  have hv1 : W1.heap[Bs]? = some (.cells #[v] 41 (0, 0)) := (hgn.block Bs hB0 (by simp)).trans hv
  have hK1 : W1.heap[D]? = some (.deferred (some [])) := (hgn.block D hD0 (by simp)).trans h.K
  have hrow1 : W1.ownsRow w0.heap.size 37 17 v ss.length (rss ss) := hrow.kept hgn (Classical.em _)
  have hbb1 : Below w0.heap.size w0 W1 := h.below.grown hgn h.below.size (fun k e => by cases e)
  have hk1 : KeepsWalks W W1 := KeepsWalks.of_grownBy hgn (fun j o hj => by cases hj)
  obtain ⟨W2, hW2⟩ : ∃ W2, W1.putObj l (.loop { apRecR fn sv Bs D .ready none with state := .busy }) = W2 := ⟨_, rfl⟩
  rw [hW2] at hbr
  refine ⟨W2, hbr, ?_⟩
  have hg2 : W1.grownBy W2 (some l) := by rw [← hW2]; exact grownBy_putObj_a _ _ _
  have hk2 : KeepsWalks W W2 := hk1.trans (by rw [← hW2]; exact KeepsWalks.putObj _ hL1 rfl)
  have hb5 : Blk W2 W.heap.size 37 #[.int .i64 x.r.i.r, .int .i64 x.r.i.n, .int .i64 x.r.bal, .int .i64 x.r.st, .int .i64 x.r.by_, .int .i64 x.r.e.o.c, .int .i64 x.r.e.o.s, .int .i64 x.r.e.o.k, .string (txt x.r.e.o.acct), .string (txt x.r.e.o.peer), .int .i64 x.r.e.o.sum, .slice x.L.a x.L.n x.L.c, .int .i64 x.r.e.o.per, .int .i64 x.r.e.o.hold, .string (txt x.r.e.o.note), .bool x.r.e.none, .slice x.D.a x.D.n x.D.c] := by rw [← hW2]; exact (World.putObj_heap_other (by omega)).trans hb1
  have hv2 : W2.heap[Bs]? = some (.cells #[v] 41 (0, 0)) := by rw [← hW2]; exact (World.putObj_heap_other hBl).trans hv1
  have hK2 : W2.heap[D]? = some (.deferred (some [])) := by rw [← hW2]; exact (World.putObj_heap_other hDl).trans hK1
  have hL2 : W2.heap[l]? = some (.loop { apRecR fn sv Bs D .ready none with state := .busy }) := by rw [← hW2]; exact World.putObj_heap_same (Nat.lt_of_lt_of_le hl hgn.size)
  have hrow2 : W2.ownsRow w0.heap.size 37 17 v ss.length (rss ss) := hrow1.kept hg2 (ownsRow_ne_a hrow1 hL1 (fun cur e => by first | cases e | exact absurd (Obj.cells.inj e).2.1 (by decide)))
  have hb2 : Below w0.heap.size w0 W2 := hbb1.grown hg2 hbb1.size (fun k e => by cases e; exact h0l)
  obtain ⟨hc2, hf2⟩ := cell_of_box_a hv2
  have hBlt : Bs < W2.heap.size := (Array.getElem?_eq_some_iff.1 hv2).1
  have hl2 : l < W2.heap.size := (Array.getElem?_eq_some_iff.1 hL2).1
  have hDlt : D < W2.heap.size := (Array.getElem?_eq_some_iff.1 hK2).1
  have ne_of : ∀ {j : Nat} {o : Obj}, W2.heap[j]? = some o → (∀ cur, o ≠ .cells cur 37 (0, 0)) → some j ≠ v.ownBlock := fun hj hno => by
    rcases ownsRow_ne_a hrow2 hj hno with e | e
    · rw [e]; simp
    · exact fun e' => e e'.symm
  have hone := rdR_one W2 x
  unfold RdR rss at hone
  obtain ⟨hon1, hon2⟩ := hone
  obtain ⟨ad1, had1, hcell1⟩ := hon2 (by omega)
  cases had1
  have hrx : [x].flatMap rsC = rsC x := by simp
  rw [hrx] at hcell1
  clear hm1 hgn hz hv1 hK1 hrow1 hbb1 hk1 hL1 hb1 hbr hW2 hg2
  unfold apBodyR
  gi_wp2_with (first
    | (refine wpListIn_load_blk rfl 37 (.tmp 5) rfl W.heap.size 0 rfl hb5 [.int .i64 x.r.i.r, .int .i64 x.r.i.n, .int .i64 x.r.bal, .int .i64 x.r.st, .int .i64 x.r.by_, .int .i64 x.r.e.o.c, .int .i64 x.r.e.o.s, .int .i64 x.r.e.o.k, .string (txt x.r.e.o.acct), .string (txt x.r.e.o.peer), .int .i64 x.r.e.o.sum, .slice x.L.a x.L.n x.L.c, .int .i64 x.r.e.o.per, .int .i64 x.r.e.o.hold, .string (txt x.r.e.o.note), .bool x.r.e.none, .slice x.D.a x.D.n x.D.c] rfl Tryz.underlying37 rfl rc_size ?_)
    | (gi_at_builtin; refine wpListIn_append_own _ rfl _ _ 41 rfl w0.heap.size 37 i0 _ 17 192 Tryz.underlying41 hi hz0 hz1 hz2 rfl (by decide) _ _ _ rfl (hrow2.alloc _) ⟨W2.heap.size, 0, none⟩ 1 1 (rsC x) rfl rfl hcell1 (fun u hu => rss_one [x] u (by unfold rss; rw [hrx]; exact hu)) (by omega) (by omega) (by have := hb2.size; simp; omega) ?_; intro v' w3 hown' hg3 hnil3
       have hv3 : w3.heap[Bs]? = some (.cells #[v] 41 (0, 0)) := (hg3.block Bs (by simp; omega) (ne_of hv2 (fun cur e => by first | cases e | exact absurd (Obj.cells.inj e).2.1 (by decide)))).trans ((Below.heap_alloc _ _ Bs hBlt).trans hv2)
       obtain ⟨hc3, hf3⟩ := cell_of_box_a hv3
       obtain ⟨g', cap', cur', rfl, hbase', hgb', hr1, hr2, hr3, hr4⟩ : ∃ g' cap' cur', v' = .slice (some ⟨g', 0, none⟩) (ss.length + 1) cap' ∧ w0.heap.size ≤ g' ∧ w3.heap[g']? = some (.cells cur' 37 (0, 0)) ∧ ss.length + 1 ≤ cap' ∧ cap' ≤ maxLen ∧ cur'.size = cap' * 17 ∧ cur'.toList.take ((ss.length + 1) * 17) = rss ss ++ rsC x := by
         rcases hown'.2 with ⟨_, h0⟩ | h'
         · exact absurd h0 (by omega)
         · exact h'
       go_frame)
    | fail)
  have hg3' : (W2.alloc (.cells #[.int .i64 x.r.i.r, .int .i64 x.r.i.n, .int .i64 x.r.bal, .int .i64 x.r.st, .int .i64 x.r.by_, .int .i64 x.r.e.o.c, .int .i64 x.r.e.o.s, .int .i64 x.r.e.o.k, .string (txt x.r.e.o.acct), .string (txt x.r.e.o.peer), .int .i64 x.r.e.o.sum, .slice x.L.a x.L.n x.L.c, .int .i64 x.r.e.o.per, .int .i64 x.r.e.o.hold, .string (txt x.r.e.o.note), .bool x.r.e.none, .slice x.D.a x.D.n x.D.c] 37)).grownBy w3 v.ownBlock := hg3
  have hL3 : w3.heap[l]? = some (.loop { apRecR fn sv Bs D .ready none with state := .busy }) := (hg3'.block l (by simp; omega) (ne_of hL2 (fun cur e => by first | cases e | exact absurd (Obj.cells.inj e).2.1 (by decide)))).trans ((Below.heap_alloc _ _ l hl2).trans hL2)
  have hK3 : w3.heap[D]? = some (.deferred (some [])) := (hg3'.block D (by simp; omega) (ne_of hK2 (fun cur e => by first | cases e | exact absurd (Obj.cells.inj e).2.1 (by decide)))).trans ((Below.heap_alloc _ _ D hDlt).trans hK2)
  obtain ⟨w4, hw4⟩ : ∃ w4, w3.setCell ⟨Bs, 0, none⟩ (.slice (some ⟨g', 0, none⟩) (ss.length + 1) cap') = w4 := ⟨_, rfl⟩
  rw [hw4]
  have hg4 : w3.grownBy w4 (some Bs) := by rw [← hw4]; exact grownBy_setCell0_a _ _ _
  have hv4 : w4.heap[Bs]? = some (.cells #[.slice (some ⟨g', 0, none⟩) (ss.length + 1) cap'] 41 (0, 0)) := by rw [← hw4]; exact heap_setCell_box_a _ hv3
  have hL4 : w4.heap[l]? = some (.loop { apRecR fn sv Bs D .ready none with state := .busy }) := (hg4.block l (Array.getElem?_eq_some_iff.1 hL3).1 (fun e => hBl (by cases e; rfl))).trans hL3
  have hK4 : w4.heap[D]? = some (.deferred (some [])) := (hg4.block D (Array.getElem?_eq_some_iff.1 hK3).1 (fun e => hDB (by cases e; rfl))).trans hK3
  have hrow4 := hown'.kept hg4 (ownsRow_ne_a hown' hv3 (fun cur e => by first | cases e | exact absurd (Obj.cells.inj e).2.1 (by decide)))
  have hl4 : l < w4.heap.size := (Array.getElem?_eq_some_iff.1 hL4).1
  have hb3 : Below w0.heap.size w0 w3 := (hb2.alloc hb2.size _).grown hg3' (by have := hb2.size; simp; omega) (fun k e => (hrow2.lt k e).1)
  have hb4 : Below w0.heap.size w0 w4 := hb3.grown hg4 hb3.size (fun k e => by cases e; exact h0B)
  have hk4 : KeepsWalks W w4 := ((hk2.trans (KeepsWalks.alloc _ _)).trans (KeepsWalks.of_grownBy hg3' (ownsRow_not_walk_a (hrow2.alloc _)))).trans (by rw [← hw4]; exact KeepsWalks.setCell _ _ _)
  clear hw4
  refine ⟨_, _, run_endRound none hL4, rfl, ⟨⟨_, (World.putObj_heap_other hBl).trans hv4, ?_, by simp⟩, World.putObj_heap_same hl4, (World.putObj_heap_other hDl).trans hK4, hb4.grown (grownBy_putObj_a _ _ _) hb4.size (fun k e => by cases e; exact h0l)⟩, hk4.trans (KeepsWalks.putObj _ hL4 rfl)⟩
  have := hrow4.kept (grownBy_putObj_a w4 l (.loop { { apRecR fn sv Bs D .ready none with state := .busy } with state := if (none : Option Code).isNone then .ready else .done, pending := none })) (ownsRow_ne_a hrow4 hL4 (fun cur e => by first | cases e | exact absurd (Obj.cells.inj e).2.1 (by decide)))
  rw [show rss (ss ++ [x]) = rss ss ++ rsC x by rw [rss_append]; unfold rss; rw [hrx]]
  simpa using this


set_option maxRecDepth 100000 in
set_option maxHeartbeats 2000000 in
/-- **slices.AppendSeq(nil, seq), AGAINST WHATEVER ITERATOR VALUE THAT 'SeqGives'**: it hands back a slice that owns, in a block of the call's own, JUST WHAT THE ITERATOR GAVE, IN THAT ORDER; nil JUST WHERE IT GAVE NOTHING (as Go: 'slices.Collect' of nothing is nil); nothing that lay before the call has turned. -/
theorem appendSeqR_in (F : Fence) (n : Nat) (h11 : F.fn 105) (hro : F.round = none) (hn : 2 ≤ n) (g : Nat) (lb : Array Value) (hFg : F.fn g) (eg : ∀ args w, (callFunc g args).run Tryz.prog w = .ok (.enter g args) w)
    (S : List Rs → Prop) (N : Nat) (hN : N ≤ maxLen) (hNb : N * 192 ≤ 140737488355328) (w : World) (hseq : SeqGives F (n - 1) Tryz.prog g lb rsV S N w) :
    CallsIn F n Tryz.prog 105 #[.slice none 0 0, .func (.func g) #[] lb] w fun e w' => ∃ (v : Value) (ss : List Rs), e = .returned v ∧ S ss ∧ w'.ownsRow w.heap.size 37 17 v ss.length (rss ss) ∧ (v = .slice none 0 0 ↔ ss = []) ∧ Below w.heap.size w w' := by
  have h1 : 1 ≤ n := by omega
  refine callsIn_of_wp_marks Tryz.func105 rfl h11 ?_ hro
  simp only [Tryz.ntmps105, List.size_toArray, List.length_cons, List.length_nil, Nat.reduceAdd, Nat.reduceSub, Array.replicate_succ, Array.replicate_zero, List.push_toArray, List.append_toArray, List.nil_append, List.cons_append]
  gi_wp2
  refine wpIn_rangeFunc ?_
  intro fn hfn
  rw [hro]
  obtain ⟨W0, hW0⟩ : ∃ W0, w.alloc (.cells #[.slice none 0 0] 41) = W0 := ⟨_, rfl⟩
  have hs0 : W0.heap.size = w.heap.size + 1 := by rw [← hW0]; simp
  have hv0 : W0.heap[w.heap.size]? = some (.cells #[.slice none 0 0] 41 (0, 0)) := by rw [← hW0]; exact World.alloc_heap_new w _
  have hb0 : Below w.heap.size w W0 := by rw [← hW0]; exact (Below.refl _ w).alloc (Nat.le_refl _) _
  rw [hW0]
  obtain ⟨W1, hW1⟩ : ∃ W1, (W0.alloc (.deferred (some []))).alloc (.loop (apRecR fn (.func (.func g) #[] lb) w.heap.size W0.heap.size .ready none)) = W1 := ⟨_, rfl⟩
  have hold : ∀ k, k < W0.heap.size → W1.heap[k]? = W0.heap[k]? := fun k hk => by
    rw [← hW1]; exact (Below.heap_alloc _ _ k (by simp; omega)).trans (Below.heap_alloc _ _ k hk)
  have hb1 : Below w.heap.size w W1 := by rw [← hW1]; exact (hb0.alloc hb0.size _).alloc (by have := hb0.size; simp; omega) _
  have hs1 : W1.heap.size = W0.heap.size + 2 := by rw [← hW1]; simp
  have hM : ApAtR w fn (.func (.func g) #[] lb) w.heap.size (W0.heap.size + 1) W0.heap.size [] W1 :=
    ⟨⟨_, (hold w.heap.size (by omega)).trans hv0, ⟨rfl, .inl ⟨rfl, rfl⟩⟩, by simp⟩,
     by rw [← hW1]; have := World.alloc_heap_new (W0.alloc (.deferred (some []))) (.loop (apRecR fn (.func (.func g) #[] lb) w.heap.size W0.heap.size .ready none)); rwa [World.size_alloc] at this,
     by rw [← hW1]; exact (Below.heap_alloc _ _ _ (by simp)).trans (World.alloc_heap_new W0 _), hb1⟩
  refine ⟨W0.heap.size + 1, [{ target := .collected W0.heap.size, args := #[] }], W1, { target := .fn (.func g) lb, args := #[.func (.yield (W0.heap.size + 1)) #[] #[]] }, W1, g,
    #[.func (.yield (W0.heap.size + 1)) #[] #[]] ++ lb, W1, ?_, ?_, ?_, ?_, fun _ => h1, ?_⟩
  · rw [← hW1]; exact run_enterLoop_outer _ _ _ _ _
  · simp [resolve, go_sem]
  · intro f' hf'; simp [Target.leads] at hf'; subst hf'; exact hFg
  · simp [invoke, go_sem, eg]
  · refine (hseq (W0.heap.size + 1) (ApAtR w fn (.func (.func g) #[] lb) w.heap.size (W0.heap.size + 1) W0.heap.size) W1 hb1 (ap_abidesR _ _ _ _ _ _ _ hb1.size)
      (fun pre x W hJ hl => apYieldR F (n - 1 - 1) w fn hfn _ w.heap.size (W0.heap.size + 1) W0.heap.size (by omega) (by omega) (by omega) (Nat.le_refl _) (by omega) N hN hNb pre x W hJ hl) hM).mono ?_
    rintro e W2 ⟨⟨v0, rfl⟩, ss, hS, h2⟩
    obtain ⟨v, hv, hrow, hnil⟩ := h2.box
    have hend := run_endLoop (P := Tryz.prog) h2.L (by simp [apRecR])
    obtain ⟨W3, hW3⟩ : ∃ W3, W2.putObj (W0.heap.size + 1) (.loop { apRecR fn (.func (.func g) #[] lb) w.heap.size W0.heap.size .ready none with state := .exhausted }) = W3 := ⟨_, rfl⟩
    rw [hW3] at hend
    have hg3 : W2.grownBy W3 (some (W0.heap.size + 1)) := by rw [← hW3]; exact grownBy_putObj_a _ _ _
    have hv3 : W3.heap[w.heap.size]? = some (.cells #[v] 41 (0, 0)) := by rw [← hW3]; exact (World.putObj_heap_other (by omega)).trans hv
    have hK3 : W3.heap[W0.heap.size]? = some (.deferred (some [])) := by rw [← hW3]; exact (World.putObj_heap_other (by omega)).trans h2.K
    have hrow3 := hrow.kept hg3 (ownsRow_ne_a hrow h2.L (fun cur e => by first | cases e | exact absurd (Obj.cells.inj e).2.1 (by decide)))
    have hb3 : Below w.heap.size w W3 := h2.below.grown hg3 h2.below.size (fun k e => by cases e; omega)
    obtain ⟨hc3, hf3⟩ := cell_of_box_a hv3
    clear hW3
    refine ⟨none, W3, hend, ?_⟩
    gi_wp2
    rw [← hs0]
    refine ⟨by simp, .inl ⟨_, _, rfl, run_takeDeferred hK3, ?_⟩⟩
    exact ⟨_, results_tmp rfl _ _ _, v, ss, rfl, hS, hrow3.kept (grownBy_putObj_a _ _ _) (ownsRow_ne_a hrow3 hK3 (fun cur e => by first | cases e | exact absurd (Obj.cells.inj e).2.1 (by decide))), hnil, hb3.grown (grownBy_putObj_a _ _ _) hb3.size (fun k e => by cases e; omega)⟩


set_option maxRecDepth 100000 in
set_option maxHeartbeats 1000000 in
/-- **slices.Collect(seq), AGAINST WHATEVER ITERATOR VALUE.** -/
theorem collectR_in (F : Fence) (n : Nat) (h8 : F.fn 91) (h11 : F.fn 105) (hro : F.round = none) (hn : 3 ≤ n) (g : Nat) (lb : Array Value) (hFg : F.fn g) (eg : ∀ args w, (callFunc g args).run Tryz.prog w = .ok (.enter g args) w)
    (S : List Rs → Prop) (N : Nat) (hN : N ≤ maxLen) (hNb : N * 192 ≤ 140737488355328) (w : World) (hseq : SeqGives F (n - 1 - 1) Tryz.prog g lb rsV S N w) :
    CallsIn F n Tryz.prog 91 #[.func (.func g) #[] lb] w fun e w' => ∃ (v : Value) (ss : List Rs), e = .returned v ∧ S ss ∧ w'.ownsRow w.heap.size 37 17 v ss.length (rss ss) ∧ (v = .slice none 0 0 ↔ ss = []) ∧ Below w.heap.size w w' := by
  have h1 : 1 ≤ n := by omega
  have e11 : ∀ args w, (callFunc 105 args).run Tryz.prog w = .ok (.enter 105 args) w := fun args w => rfl
  refine callsIn_of_wp Tryz.func91 rfl h8 ?_ hro
  simp only [Tryz.ntmps91, List.size_toArray, List.length_cons, List.length_nil, Nat.reduceAdd, Nat.reduceSub, Array.replicate_succ, Array.replicate_zero, List.push_toArray, List.append_toArray, List.nil_append, List.cons_append]
  gi_wp2_with (gi_at_fn 105; refine (appendSeqR_in F (n - 1) h11 hro (by omega) g lb hFg eg S N hN hNb _ hseq).mono ?_; rintro e w' ⟨v, ss, rfl, hS, hrow, hnil, hb⟩)
  go_ret
  exact ⟨v, ss, rfl, hS, hrow, hnil, hb⟩

end Go.Proofs.YtdnbclhidpkpgaaGreat
/-
  How records stand: log.Last's comparing, to the world. No condition.
-/
namespace Go.Proofs.YtdnbclhidpkpgaaGreat
set_option linter.unusedVariables false
set_option linter.unusedSimpArgs false
open Go.RowKit
/-- draws, and new blocks behind -/
def Lay (W W' : World) : Prop := ∃ q os, W' = Sort.grow (W.drewN q) os
theorem Lay.refl (W : World) : Lay W W := ⟨0, #[], by rw [Sort.grow_empty]; rfl⟩
theorem Lay.alloc {W W' : World} (h : Lay W W') (o : Obj) : Lay W (W'.alloc o) := by
  obtain ⟨q, os, rfl⟩ := h
  exact ⟨q, os.push o, by simp [Sort.grow, World.alloc]⟩
theorem Lay.drew {W W' : World} (h : Lay W W') : Lay W W'.drew := by
  obtain ⟨q, os, rfl⟩ := h
  exact ⟨q + 1, os, rfl⟩
theorem Lay.trans {W W' W'' : World} (h : Lay W W') (k : Lay W' W'') : Lay W W'' := by
  obtain ⟨q, os, rfl⟩ := h
  obtain ⟨q', os', rfl⟩ := k
  refine ⟨q + q', os ++ os', ?_⟩
  simp [Sort.grow, World.drewN, Array.append_assoc, Nat.add_assoc]
theorem Lay.mod {W W' : World} (h : Lay W W') : Mod none_ W W' := by
  obtain ⟨q, os, rfl⟩ := h
  exact ⟨rfl, rfl, rfl, by simp [Sort.grow, World.drewN], fun i hi _ => by show (W.heap ++ os)[i]? = _; rw [Array.getElem?_append_left hi]⟩
set_option maxRecDepth 100000 in
set_option maxHeartbeats 4000000 in
theorem compare_lay (w : World) (a b : Is) : Calls Tryz.prog 94 #[.agg #[.int .i64 a.r, .int .i64 a.n], .agg #[.int .i64 b.r, .int .i64 b.n]] w fun e w' => e = .returned (.int .i64 (cmpIs a b)) ∧ Lay w w' := by
  obtain ⟨ar, an⟩ := a
  obtain ⟨br, bn⟩ := b
  dsimp only
  have kC := Lib.hid (fun W a b => cmpI_ok W a b)
  obtain ⟨z, hz⟩ : ∃ z, cmpIs ⟨ar, an⟩ ⟨br, bn⟩ = z := ⟨_, rfl⟩
  rw [hz]
  have kO := Lib.hid (fun W b h => show Calls Tryz.prog 108 #[.slice (some ⟨b, 0, none⟩) 2 2] W (fun e w' => e = .returned (.int .i64 z) ∧ W = w') from by
    rw [← hz]; exact or2_ok W b (cmpI ar br) (cmpI an bn) h)
  clear hz
  go_enter Tryz.func94, Tryz.ntmps94
  go_wp2_with fail
  go_region_held3 (fun W => W.cell? ⟨w.heap.size, 0, none⟩ = some (.int .i64 ar) ∧ W.cell? ⟨w.heap.size, 1, none⟩ = some (.int .i64 an) ∧ W.cell? ⟨w.heap.size + 1, 0, none⟩ = some (.int .i64 br) ∧ W.cell? ⟨w.heap.size + 1, 1, none⟩ = some (.int .i64 bn)) (go_keep)
    (first | (go_at_call 109; with_reducible refine (kC.out _ _ _).mono ?_; rintro e w1 ⟨rfl, rfl⟩) | (go_at_call 108; refine (kO.out _ _ (by show RdI _ _ _ _; exact rdn _ _ 1 2 _ _ (0, 0) (by simp) rfl)).mono ?_; rintro e w1 ⟨rfl, rfl⟩))
  go_wp2_with fail
  go_ret
  exact ⟨rfl, ((((Lay.refl w).alloc _).alloc _).alloc _).drew⟩
set_option maxRecDepth 100000 in
theorem ahead_lay (w : World) (a b : Is) : Calls Tryz.prog 64 #[.agg #[.int .i64 a.r, .int .i64 a.n], .agg #[.int .i64 b.r, .int .i64 b.n]] w fun e w' => e = .returned (.bool (isLt a b)) ∧ Lay w w' := by
  have kC := Lib.hid (fun W => compare_lay W a b)
  have hz := cmpIs_lt a b
  generalize cmpIs a b = z at *
  replace hz := Lib.hid hz
  go_enter Tryz.func64, Tryz.ntmps64
  go_wp2_with fail
  with_reducible refine (kC.out _).mono ?_
  rintro e w1 ⟨rfl, hm⟩
  dsimp only
  have hm1 := (((Lay.refl w).alloc _).alloc _).trans hm
  replace hm := Lib.hid hm
  replace hm1 := Lib.hid hm1
  go_wp2_with fail
  go_ret
  exact ⟨by rw [← hz.out]; rfl, hm1.out⟩
def cfR (x y : Rs) : Int := if isLt x.r.i y.r.i then -1 else if x.r.i = y.r.i then 0 else 1
set_option maxRecDepth 100000 in
set_option maxHeartbeats 4000000 in
theorem lastCmp_ok (w : World) (x y : Rs) : Calls Tryz.prog 63 #[.agg #[.int .i64 x.r.i.r, .int .i64 x.r.i.n, .int .i64 x.r.bal, .int .i64 x.r.st, .int .i64 x.r.by_, .int .i64 x.r.e.o.c, .int .i64 x.r.e.o.s, .int .i64 x.r.e.o.k, .string (txt x.r.e.o.acct), .string (txt x.r.e.o.peer), .int .i64 x.r.e.o.sum, .slice x.L.a x.L.n x.L.c, .int .i64 x.r.e.o.per, .int .i64 x.r.e.o.hold, .string (txt x.r.e.o.note), .bool x.r.e.none, .slice x.D.a x.D.n x.D.c], .agg #[.int .i64 y.r.i.r, .int .i64 y.r.i.n, .int .i64 y.r.bal, .int .i64 y.r.st, .int .i64 y.r.by_, .int .i64 y.r.e.o.c, .int .i64 y.r.e.o.s, .int .i64 y.r.e.o.k, .string (txt y.r.e.o.acct), .string (txt y.r.e.o.peer), .int .i64 y.r.e.o.sum, .slice y.L.a y.L.n y.L.c, .int .i64 y.r.e.o.per, .int .i64 y.r.e.o.hold, .string (txt y.r.e.o.note), .bool y.r.e.none, .slice y.D.a y.D.n y.D.c]] w fun e w' => e = .returned (.int .i64 (cfR x y)) ∧ Lay w w' := by
  have kA := Lib.hid (fun W => ahead_lay W x.r.i y.r.i)
  have hb1 := Lib.hid ((Blk.new w 37 #[.int .i64 x.r.i.r, .int .i64 x.r.i.n, .int .i64 x.r.bal, .int .i64 x.r.st, .int .i64 x.r.by_, .int .i64 x.r.e.o.c, .int .i64 x.r.e.o.s, .int .i64 x.r.e.o.k, .string (txt x.r.e.o.acct), .string (txt x.r.e.o.peer), .int .i64 x.r.e.o.sum, .slice x.L.a x.L.n x.L.c, .int .i64 x.r.e.o.per, .int .i64 x.r.e.o.hold, .string (txt x.r.e.o.note), .bool x.r.e.none, .slice x.D.a x.D.n x.D.c]).alloc (.cells #[.int .i64 y.r.i.r, .int .i64 y.r.i.n, .int .i64 y.r.bal, .int .i64 y.r.st, .int .i64 y.r.by_, .int .i64 y.r.e.o.c, .int .i64 y.r.e.o.s, .int .i64 y.r.e.o.k, .string (txt y.r.e.o.acct), .string (txt y.r.e.o.peer), .int .i64 y.r.e.o.sum, .slice y.L.a y.L.n y.L.c, .int .i64 y.r.e.o.per, .int .i64 y.r.e.o.hold, .string (txt y.r.e.o.note), .bool y.r.e.none, .slice y.D.a y.D.n y.D.c] 37))
  have hb2 := Lib.hid (Blk.new (w.alloc (.cells #[.int .i64 x.r.i.r, .int .i64 x.r.i.n, .int .i64 x.r.bal, .int .i64 x.r.st, .int .i64 x.r.by_, .int .i64 x.r.e.o.c, .int .i64 x.r.e.o.s, .int .i64 x.r.e.o.k, .string (txt x.r.e.o.acct), .string (txt x.r.e.o.peer), .int .i64 x.r.e.o.sum, .slice x.L.a x.L.n x.L.c, .int .i64 x.r.e.o.per, .int .i64 x.r.e.o.hold, .string (txt x.r.e.o.note), .bool x.r.e.none, .slice x.D.a x.D.n x.D.c] 37)) 37 #[.int .i64 y.r.i.r, .int .i64 y.r.i.n, .int .i64 y.r.bal, .int .i64 y.r.st, .int .i64 y.r.by_, .int .i64 y.r.e.o.c, .int .i64 y.r.e.o.s, .int .i64 y.r.e.o.k, .string (txt y.r.e.o.acct), .string (txt y.r.e.o.peer), .int .i64 y.r.e.o.sum, .slice y.L.a y.L.n y.L.c, .int .i64 y.r.e.o.per, .int .i64 y.r.e.o.hold, .string (txt y.r.e.o.note), .bool y.r.e.none, .slice y.D.a y.D.n y.D.c])
  have hl0 := Lib.hid (((Lay.refl w).alloc (.cells #[.int .i64 x.r.i.r, .int .i64 x.r.i.n, .int .i64 x.r.bal, .int .i64 x.r.st, .int .i64 x.r.by_, .int .i64 x.r.e.o.c, .int .i64 x.r.e.o.s, .int .i64 x.r.e.o.k, .string (txt x.r.e.o.acct), .string (txt x.r.e.o.peer), .int .i64 x.r.e.o.sum, .slice x.L.a x.L.n x.L.c, .int .i64 x.r.e.o.per, .int .i64 x.r.e.o.hold, .string (txt x.r.e.o.note), .bool x.r.e.none, .slice x.D.a x.D.n x.D.c] 37)).alloc (.cells #[.int .i64 y.r.i.r, .int .i64 y.r.i.n, .int .i64 y.r.bal, .int .i64 y.r.st, .int .i64 y.r.by_, .int .i64 y.r.e.o.c, .int .i64 y.r.e.o.s, .int .i64 y.r.e.o.k, .string (txt y.r.e.o.acct), .string (txt y.r.e.o.peer), .int .i64 y.r.e.o.sum, .slice y.L.a y.L.n y.L.c, .int .i64 y.r.e.o.per, .int .i64 y.r.e.o.hold, .string (txt y.r.e.o.note), .bool y.r.e.none, .slice y.D.a y.D.n y.D.c] 37))
  have hei := fun W => eql_is W x.r.i y.r.i
  unfold isV at hei
  have hcf : cfR x y = if isLt x.r.i y.r.i then -1 else if x.r.i = y.r.i then 0 else 1 := rfl
  obtain ⟨z, hz⟩ : ∃ z, z = cfR x y := ⟨_, rfl⟩
  rw [← hz] at hcf ⊢
  clear hz
  replace hcf := Lib.hid hcf
  go_enter Tryz.func63, Tryz.ntmps63
  go_wp2_with fail
  with_reducible refine (kA.out _).mono ?_
  rintro e w1 ⟨rfl, hl1⟩
  dsimp only
  have hL1 := Lib.hid (hl0.out.trans hl1)
  have hb1' := Lib.hid (hb1.out.mod hl1.mod (fun h => h))
  have hb2' := Lib.hid (hb2.out.mod hl1.mod (fun h => h))
  have hsz : (w.alloc (.cells #[.int .i64 x.r.i.r, .int .i64 x.r.i.n, .int .i64 x.r.bal, .int .i64 x.r.st, .int .i64 x.r.by_, .int .i64 x.r.e.o.c, .int .i64 x.r.e.o.s, .int .i64 x.r.e.o.k, .string (txt x.r.e.o.acct), .string (txt x.r.e.o.peer), .int .i64 x.r.e.o.sum, .slice x.L.a x.L.n x.L.c, .int .i64 x.r.e.o.per, .int .i64 x.r.e.o.hold, .string (txt x.r.e.o.note), .bool x.r.e.none, .slice x.D.a x.D.n x.D.c] 37)).heap.size = w.heap.size + 1 := by simp
  rw [hsz] at hb2'
  clear hl1 hsz hb1 hb2 hl0 kA
  cases hlt : isLt x.r.i y.r.i with
  | true =>
    rw [hlt] at hcf
    have hz : z = -1 := hcf.out
    clear hcf
    replace hz := Lib.hid hz
    replace hlt := Lib.hid hlt
    go_wp2_with fail
    go_ret
    exact ⟨by rw [hz.out]; rfl, hL1.out⟩
  | false =>
    rw [hlt] at hcf
    have hcf' : z = if x.r.i = y.r.i then 0 else 1 := hcf.out
    clear hcf
    by_cases he : x.r.i = y.r.i
    · rw [if_pos he] at hcf'
      have hde : decide (x.r.i = y.r.i) = true := decide_eq_true he
      replace hcf' := Lib.hid hcf'
      replace he := Lib.hid he
      replace hlt := Lib.hid hlt
      go_wp2_with (first
        | (refine wpList_load_blk rfl 25 (.tmp 12) rfl w.heap.size 0 rfl hb1'.out [.int .i64 x.r.i.r, .int .i64 x.r.i.n] rfl Tryz.underlying25 rfl inst_size ?_)
        | (refine wpList_load_blk rfl 25 (.tmp 14) rfl (w.heap.size + 1) 0 rfl hb2'.out [.int .i64 y.r.i.r, .int .i64 y.r.i.n] rfl Tryz.underlying25 rfl inst_size ?_))
      go_ret
      exact ⟨by rw [hcf'.out]; rfl, hL1.out⟩
    · rw [if_neg he] at hcf'
      have hde : decide (x.r.i = y.r.i) = false := decide_eq_false he
      replace hcf' := Lib.hid hcf'
      replace he := Lib.hid he
      replace hlt := Lib.hid hlt
      go_wp2_with (first
        | (refine wpList_load_blk rfl 25 (.tmp 12) rfl w.heap.size 0 rfl hb1'.out [.int .i64 x.r.i.r, .int .i64 x.r.i.n] rfl Tryz.underlying25 rfl inst_size ?_)
        | (refine wpList_load_blk rfl 25 (.tmp 14) rfl (w.heap.size + 1) 0 rfl hb2'.out [.int .i64 y.r.i.r, .int .i64 y.r.i.n] rfl Tryz.underlying25 rfl inst_size ?_))
      go_ret
      exact ⟨by rw [hcf'.out]; rfl, hL1.out⟩
end Go.Proofs.YtdnbclhidpkpgaaGreat
/-
  DERIVED: THE SHELF's CONTRACTS AT THIS DUMP, IN PLAIN WORDS (tools/lay-plain.mjs out of 'TryzSortF.lean', which tools/lay-shelf.mjs wrote): THE SAME DECLARATIONS UNDER THE SAME NAMES: 'import', 'namespace', 'open', 'def', 'theorem' AND NOTHING ELSE: no command of the shelf's: FOR A HAND-IN. Each laying: the table of numbers ('.._ren') and one theorem, a field a fact of the dump's own or the kernel's comparison; each contract: ONE APPLICATION.
-/
namespace Go.Proofs
open Go.Shelf
def Tryz.sortf92_ren : Go.Shelf.Ren := ⟨fun | 6 => 92 | 15 => 107 | 14 => 106 | 28 => 138 | 29 => 139 | 20 => 130 | 21 => 131 | 22 => 132 | 23 => 133 | 24 => 134 | 25 => 135 | 26 => 136 | 27 => 137 | 46 => 142 | 47 => 143 | 48 => 144 | 49 => 145 | 50 => 146 | 57 => 151 | n => n, fun | 22 => 41 | 24 => 37 | 25 => 108 | 3 => 3 | 39 => 53 | 0 => 0 | 53 => 120 | 55 => 132 | 4 => 4 | 46 => 154 | 45 => 153 | 50 => 158 | 5 => 5 | 9 => 9 | 66 => 164 | 70 => 168 | 76 => 174 | 77 => 175 | n => n, fun | n => n⟩
theorem Tryz.sortf92 : Go.Proofs.SlLaysF0.n6 Tryz.prog Tryz.sortf92_ren := {
  mixed := by kernel_rfl
  f6 := ⟨Tryz.f92.name, by decide, Tryz.func92.trans (congrArg some (by kernel_rfl))⟩
  f14 := ⟨Tryz.f106.name, by decide, Tryz.func106.trans (congrArg some (by kernel_rfl))⟩
  f15 := Tryz.func107.trans (congrArg some (by kernel_rfl))
  f20 := ⟨Tryz.f130.name, by decide, Tryz.func130.trans (congrArg some (by kernel_rfl))⟩
  f21 := ⟨Tryz.f131.name, by decide, Tryz.func131.trans (congrArg some (by kernel_rfl))⟩
  f22 := ⟨Tryz.f132.name, by decide, Tryz.func132.trans (congrArg some (by kernel_rfl))⟩
  f23 := ⟨Tryz.f133.name, by decide, Tryz.func133.trans (congrArg some (by kernel_rfl))⟩
  f24 := ⟨Tryz.f134.name, by decide, Tryz.func134.trans (congrArg some (by kernel_rfl))⟩
  f25 := ⟨Tryz.f135.name, by decide, Tryz.func135.trans (congrArg some (by kernel_rfl))⟩
  f26 := ⟨Tryz.f136.name, by decide, Tryz.func136.trans (congrArg some (by kernel_rfl))⟩
  f27 := ⟨Tryz.f137.name, by decide, Tryz.func137.trans (congrArg some (by kernel_rfl))⟩
  f28 := Tryz.func138.trans (congrArg some (by kernel_rfl))
  f29 := Tryz.func139.trans (congrArg some (by kernel_rfl))
  f46 := ⟨Tryz.f142.name, by decide, Tryz.func142.trans (congrArg some (by kernel_rfl))⟩
  f47 := Tryz.func143.trans (congrArg some (by kernel_rfl))
  f48 := Tryz.func144.trans (congrArg some (by kernel_rfl))
  f49 := ⟨Tryz.f145.name, by decide, Tryz.func145.trans (congrArg some (by kernel_rfl))⟩
  f50 := ⟨Tryz.f146.name, by decide, Tryz.func146.trans (congrArg some (by kernel_rfl))⟩
  f57 := ⟨Tryz.f151.name, by decide, Tryz.func151.trans (congrArg some (by kernel_rfl))⟩
  t0 := Tryz.underlying0
  a0 := Tryz.isAgg0
  z0 := Tryz.sizeOf0
  v0 := Tryz.zeroValue0
  t3 := Tryz.underlying3
  a3 := Tryz.isAgg3
  z3 := Tryz.sizeOf3
  v3 := Tryz.zeroValue3
  t4 := Tryz.underlying4
  a4 := Tryz.isAgg4
  z4 := Tryz.sizeOf4
  v4 := Tryz.zeroValue4
  t5 := Tryz.underlying5
  a5 := Tryz.isAgg5
  z5 := Tryz.sizeOf5
  v5 := Tryz.zeroValue5
  t9 := Tryz.underlying9
  a9 := Tryz.isAgg9
  z9 := Tryz.sizeOf9
  v9 := Tryz.zeroValue9
  t22 := Tryz.underlying41
  a22 := Tryz.isAgg41
  z22 := Tryz.sizeOf41
  v22 := Tryz.zeroValue41
  t25 := Tryz.underlying108
  a25 := Tryz.isAgg108
  z25 := Tryz.sizeOf108
  v25 := Tryz.zeroValue108
  t39 := Tryz.underlying53
  a39 := Tryz.isAgg53
  z39 := Tryz.sizeOf53
  v39 := Tryz.zeroValue53
  t45 := Tryz.underlying153
  a45 := Tryz.isAgg153
  z45 := Tryz.sizeOf153
  v45 := Tryz.zeroValue153
  t46 := Tryz.underlying154
  a46 := Tryz.isAgg154
  z46 := Tryz.sizeOf154
  v46 := Tryz.zeroValue154
  t50 := Tryz.underlying158
  a50 := Tryz.isAgg158
  z50 := Tryz.sizeOf158
  v50 := Tryz.zeroValue158
  t53 := Tryz.underlying120
  a53 := Tryz.isAgg120
  z53 := Tryz.sizeOf120
  v53 := Tryz.zeroValue120
  t55 := Tryz.underlying132
  a55 := Tryz.isAgg132
  z55 := Tryz.sizeOf132
  v55 := Tryz.zeroValue132
  t66 := Tryz.underlying164
  a66 := Tryz.isAgg164
  z66 := Tryz.sizeOf164
  v66 := Tryz.zeroValue164
  t70 := Tryz.underlying168
  a70 := Tryz.isAgg168
  z70 := Tryz.sizeOf168
  v70 := Tryz.zeroValue168
  t76 := Tryz.underlying174
  a76 := Tryz.isAgg174
  z76 := Tryz.sizeOf174
  v76 := Tryz.zeroValue174
  t77 := Tryz.underlying175
  a77 := Tryz.isAgg175
  z77 := Tryz.sizeOf175
  v77 := Tryz.zeroValue175 }
end Go.Proofs
/-
  slices.SortFunc of records with log.Last's comparing; slices.SortedFunc of a map's records. No condition.
-/
namespace Go.Proofs.YtdnbclhidpkpgaaGreat
set_option linter.unusedVariables false
set_option linter.unusedSimpArgs false
open Go.RowKit
open Go.Shelf Go.Sort Go.Lib
instance : Inhabited Rs := ⟨⟨⟨⟨0, 0⟩, 0, 0, 0, en0⟩, ⟨none, 0, 0⟩, ⟨none, 0, 0⟩⟩⟩
theorem ltR_iff (x y : Rs) : ltOf cfR x y = isLt x.r.i y.r.i := by
  unfold ltOf cfR
  cases isLt x.r.i y.r.i with
  | true => simp
  | false =>
    simp only [Bool.false_eq_true, if_false]
    split <;> simp
theorem swoR : SWO (ltOf cfR) where
  irrefl x := by rw [ltR_iff]; unfold isLt; simp
  trans x y z h1 h2 := by
    rw [ltR_iff] at *
    unfold isLt at *
    simp only [decide_eq_true_eq] at *
    omega
  ntrans x y z h1 h2 := by
    rw [ltR_iff] at *
    unfold isLt at *
    simp only [decide_eq_false_iff_not] at *
    omega
theorem flatK_rss (d : List Rs) : (flatK rsC 17 d.toArray).toList = rss d := by
  apply List.ext_getElem?
  intro t
  by_cases ht : t < d.length * 17
  · have h1 : t / 17 < d.length := by omega
    have h2 : t % 17 < 17 := by omega
    have e1 : (flatK rsC 17 d.toArray).toList[t]? = some ((flatK rsC 17 d.toArray)[t]!) := by
      rw [Array.getElem?_toList, getElem!_pos _ t (by simpa using ht), Array.getElem?_eq_getElem (by simpa using ht)]
    rw [e1, get_flatK rsC 17 d.toArray t (by simpa using ht)]
    have e2 := flat_get rsC 17 (fun _ => rfl) d (t / 17) d[t / 17] (List.getElem?_eq_getElem h1) (t % 17) h2
    have e3 : t / 17 * 17 + t % 17 = t := by omega
    rw [e3] at e2
    unfold rss
    have e4 : d.toArray[t / 17]! = d[t / 17] := by rw [getElem!_pos _ _ (by simpa using h1)]; simp
    rw [e2, e4, getElem!_pos (rsC d[t / 17]) (t % 17) (by rw [rsC_len]; exact h2), List.getElem?_eq_getElem (by rw [rsC_len]; exact h2)]
  · rw [List.getElem?_eq_none (by simp; omega), List.getElem?_eq_none (by rw [rss_length]; omega)]
theorem heap_sortR {W : World} {g n : Nat} {e : TypeId} {cur : Array Value} (os : Array Obj) (d : Array Rs) (hb : Blk W g e cur) : Blk (sortWorldK rsC 17 W g 0 n d os) g e (putCells id 0 (flatK rsC 17 d) cur) := by
  have hg : g < W.heap.size := hb.lt
  unfold Blk sortWorldK putRowK putRow mapBlock
  show (_ ++ os)[g]? = _
  rw [Array.getElem?_append_left (by simp [Sort.ahead]; exact hg)]
  show (W.heap.modify g _)[g]? = _
  rw [Array.getElem?_eq_getElem (by rw [Array.size_modify]; exact hg), Array.getElem_modify_self]
  have := Array.getElem?_eq_some_iff.1 hb
  rw [this.2]
  rfl
theorem mod_sortR {W : World} {g n : Nat} (os : Array Obj) (d : Array Rs) : Mod (only g) W (sortWorldK rsC 17 W g 0 n d os) := by
  unfold sortWorldK putRowK putRow mapBlock
  refine ⟨rfl, rfl, rfl, by simp [Sort.grow, Sort.ahead], fun k hk hne => ?_⟩
  show (_ ++ os)[k]? = _
  rw [Array.getElem?_append_left (by simp [Sort.ahead]; exact hk)]
  show (W.heap.modify g _)[k]? = _
  have : g ≠ k := fun e => hne (by rw [e]; exact rfl)
  simp [Array.getElem?_modify, this]
theorem take_putCellsR (cur F : Array Value) (h : F.size ≤ cur.size) : (putCells id 0 F cur).toList.take F.size = F.toList := by
  apply List.ext_getElem?
  intro j
  by_cases hj : j < F.size
  · rw [List.getElem?_take_of_lt hj, Array.getElem?_toList]
    simp [putCells, hj, show j < cur.size by omega]
  · rw [List.getElem?_take_eq_none (by omega), List.getElem?_eq_none (by simp; omega)]
set_option maxRecDepth 100000 in
theorem sortR_ok (W : World) (g n cap : Nat) (xs : List Rs) (how : OwR W (some ⟨g, 0, none⟩) n cap xs) (hn : n ≤ 1000000) :
    Calls Tryz.prog 92 #[.slice (some ⟨g, 0, none⟩) n cap, .func (.func 63) #[] #[]] W fun e w' =>
      e = .returned (.tuple #[]) ∧ ∃ ys : List Rs, ys.Perm xs ∧ (ys.Pairwise fun a b => isLt b.r.i a.r.i = false) ∧ OwR w' (some ⟨g, 0, none⟩) n cap ys ∧ Mod (only g) W w' := by
  have hl := how.len
  obtain ⟨h1, h2, h3, h4⟩ := how
  rcases h4 with ⟨h4, _⟩ | ⟨g', cur, h4, hb, h5, h6⟩
  · cases h4
  · cases h4
    have hH : HoldsK rsC 17 W g 0 xs.toArray := by
      intro j hj
      have hj' : j < xs.length * 17 := by simpa using hj
      refine ⟨?_, hb.frozen _⟩
      rw [Nat.zero_add, hb.cell]
      have e1 := flatK_rss xs
      have e2 : cur[j]? = (rss xs)[j]? := by
        rw [← h6, List.getElem?_take, if_pos (by rw [← hl]; exact hj'), Array.getElem?_toList]
      rw [e2, ← e1, Array.getElem?_toList, Array.getElem?_eq_getElem hj, getElem!_pos _ j hj]
      rfl
    have hcmp : CmpLays Tryz.prog 63 #[] rsC 17 cfR g 0 xs.toArray.size W := fun m os dk hs x y => lastCmp_ok _ x y
    have hk := AnyQ.slices_SortFunc (P := Tryz.prog) Tryz.sortf92 17 (fun w => by kernel_rfl) (fun w => by kernel_rfl) rsC (fun _ => rfl) (fun x v hv => rss_one [x] v (by unfold rss; simpa using hv)) cfR swoR 63 #[] g 0 cap xs.toArray W (fun _ _ => rfl) hcmp hH hb.lt (by have := h3; simp only [maxLen] at this; simp; omega)
    have hsz : xs.toArray.size = n := by simpa using hl
    rw [hsz] at hk
    refine Calls.mono (show Calls Tryz.prog 92 #[.slice (some ⟨g, 0, none⟩) n cap, .func (.func 63) #[] #[]] W _ from hk) ?_
    rintro e w' ⟨rfl, d', n', os, hp, hs, rfl⟩
    refine ⟨rfl, d'.toList, ?_, ?_, ?_, mod_sortR os d'⟩
    · obtain ⟨p1, p2, p3⟩ := hp
      have a1 : d'.extract 0 n = d' := by rw [← hsz, ← p1]; simp
      have a2 : xs.toArray.extract 0 n = xs.toArray := by rw [← hsz]; simp
      rw [a1, a2] at p3
      simpa using p3
    · obtain ⟨p1, _, _⟩ := hp
      rw [List.pairwise_iff_getElem]
      intro i j hi hj hij
      have hj' : j < d'.size := by simpa using hj
      have hi' : i < d'.size := by simpa using hi
      have := hs i j (Nat.zero_le _) hij (by rw [← hsz, ← p1]; exact hj')
      rw [ltR_iff, getElem!_pos d' j hj', getElem!_pos d' i hi'] at this
      simpa using this
    · obtain ⟨p1, _, _⟩ := hp
      have hdl : d'.toList.length = n := by rw [Array.length_toList, p1, hsz]
      have e1 : (flatK rsC 17 d').toList = rss d'.toList := by have := flatK_rss d'.toList; simpa using this
      have hFs : (flatK rsC 17 d').size = n * 17 := by rw [size_flatK, p1, hsz]
      refine ⟨by rw [rss_length, hdl], h2, h3, .inr ⟨g, _, rfl, heap_sortR os d' hb, by simp [putCells]; exact h5, ?_⟩⟩
      rw [← hFs, take_putCellsR _ _ (by rw [hFs]; have := Nat.mul_le_mul_right 17 h2; omega), e1]
end Go.Proofs.YtdnbclhidpkpgaaGreat
/-
  log.Last. No condition.
-/
namespace Go.Proofs.YtdnbclhidpkpgaaGreat
set_option linter.unusedVariables false
set_option linter.unusedSimpArgs false
open Go.RowKit
theorem ownsR_ow {W : World} {base n : Nat} {v : Value} {ss : List Rs} (h : W.ownsRow base 37 17 v n (rss ss)) (hn : ss.length = n) : ∃ A c, v = .slice A n c ∧ OwR W A n c ss ∧ ∀ a, A = some a → base ≤ a.block := by
  rcases h.2 with ⟨rfl, h0⟩ | ⟨g, cap, cur, rfl, hbase, hgb, r1, r2, r3, r4⟩
  · subst h0
    have hs : ss = [] := List.eq_nil_of_length_eq_zero hn
    subst hs
    exact ⟨none, 0, rfl, Ow.nil _ _ _, fun a ha => by cases ha⟩
  · exact ⟨_, cap, rfl, ⟨by rw [rss_length, hn], r1, r2, .inr ⟨g, cur, rfl, hgb, by rw [r3]; exact Nat.le_refl _, r4⟩⟩, fun a ha => by cases ha; exact hbase⟩
theorem values_ok (w : World) (b : Nat) : Calls Tryz.prog 62 #[.map (some b)] w fun e w' =>
    e = .returned (.func (.func 93) #[] #[.pointer (some ⟨w.heap.size, 0, none⟩)]) ∧ w' = w.alloc (.cells #[.map (some b)] 102) := by
  go_enter Tryz.func62, Tryz.ntmps62
  go_wp2_with fail
  go_ret
  exact ⟨rfl, rfl⟩
set_option maxRecDepth 100000 in
theorem collect_ok (w : World) (Bm b : Nat) (M : List Rs) (hm : w.cell? ⟨Bm, 0, none⟩ = some (.map (some b))) (hBm : Bm < w.heap.size) (hM : MapK w b (mapM M)) (hn : M.length ≤ 1000000) :
    Calls Tryz.prog 91 #[.func (.func 93) #[] #[.pointer (some ⟨Bm, 0, none⟩)]] w fun e w' =>
      ∃ A c ss, e = .returned (.slice A M.length c) ∧ ss.Perm M ∧ OwR w' A M.length c ss ∧ Fresh w A ∧ Mod none_ w w' := by
  have hseq : SeqGives Fence.wide (4 - 1 - 1) Tryz.prog 93 #[.pointer (some ⟨Bm, 0, none⟩)] rsV (fun ss => ss.Perm M) M.length w := fun l J W hW hJ hY h0 =>
    values1_in Fence.wide (4 - 1 - 1) trivial rfl (by omega) l Bm b M J (fun pre x W1 hj hl _ => hY pre x W1 hj hl) W hJ ((hW.cell (p := ⟨Bm, 0, none⟩) hBm).trans hm) (hM.mod (Mod.of_below hW) (fun h => h)) h0
  refine ((collectR_in Fence.wide 4 trivial trivial rfl (by omega) _ _ trivial (fun _ _ => rfl) (fun ss => ss.Perm M) M.length (by simp only [maxLen]; omega) (by omega) w hseq).calls (fun k d hd => by cases hd)).mono ?_
  rintro e w' ⟨v, ss, rfl, hp, hrow, hnil, hb⟩
  have hl := hp.length_eq
  rw [hl] at hrow
  obtain ⟨A, c, rfl, how, hbase⟩ := ownsR_ow hrow hl
  exact ⟨A, c, ss, rfl, hp, how, hbase, Mod.of_below hb⟩
set_option maxRecDepth 100000 in
set_option maxHeartbeats 4000000 in
theorem sortedR_ok (w : World) (Bm b : Nat) (M : List Rs) (hm : w.cell? ⟨Bm, 0, none⟩ = some (.map (some b))) (hBm : Bm < w.heap.size) (hM : MapK w b (mapM M)) (hn : M.length ≤ 1000000) :
    Calls Tryz.prog 61 #[.func (.func 93) #[] #[.pointer (some ⟨Bm, 0, none⟩)], .func (.func 63) #[] #[]] w fun e w' =>
      ∃ A c ss, e = .returned (.slice A M.length c) ∧ ss.Perm M ∧ (ss.Pairwise fun a b => isLt b.r.i a.r.i = false) ∧ OwR w' A M.length c ss ∧ Fresh w A ∧ Mod none_ w w' := by
  have kC := Lib.hid (collect_ok w Bm b M hm hBm hM hn)
  clear hm hM
  go_enter Tryz.func61, Tryz.ntmps61
  go_wp2_with fail
  refine kC.out.mono ?_
  rintro e w1 ⟨A, c, ss, rfl, hp, how, hf, hm1⟩
  dsimp only
  have hl := hp.length_eq
  generalize hN : M.length = N at *
  rcases how.2.2.2 with ⟨rfl, h0, rfl⟩ | ⟨g, cur, rfl, hb, h5, h6⟩
  · have kN := AnyF.slices_SortFunc_none (P := Tryz.prog) Tryz.sortf92 none 0 (.func (.func 63) #[] #[]) w1
    have hs0 : ss = [] := List.eq_nil_of_length_eq_zero (by omega)
    subst h0
    have kN' := Lib.hid (show Calls Tryz.prog 92 #[.slice none 0 0, .func (.func 63) #[] #[]] w1 _ from kN)
    clear kN
    replace hp := Lib.hid hp
    replace how := Lib.hid how
    replace hf := Lib.hid hf
    replace hm1 := Lib.hid hm1
    replace hN := Lib.hid hN
    replace hs0 := Lib.hid hs0
    replace hl := Lib.hid hl
    go_wp2_with fail
    refine kN'.out.mono ?_
    rintro e w2 ⟨rfl, rfl⟩
    dsimp only
    go_wp2_with fail
    go_ret
    exact ⟨none, 0, ss, by rw [hN.out]; rfl, hp.out, by rw [hs0.out]; simp, by rw [hN.out]; exact how.out, hf.out, hm1.out⟩
  · have kS := Lib.hid (sortR_ok w1 g N c ss how (by omega))
    clear hb h5 h6
    replace hp := Lib.hid hp
    replace how := Lib.hid how
    replace hf := Lib.hid hf
    replace hm1 := Lib.hid hm1
    replace hN := Lib.hid hN
    replace hl := Lib.hid hl
    go_wp2_with fail
    refine kS.out.mono ?_
    rintro e w2 ⟨rfl, ys, hp2, hs2, ho2, hm2⟩
    dsimp only
    have hM2 := Lib.hid (hm1.out.then hm2 (fun i hi hk => by have : i = g := hk; have := hf.out _ rfl; simp at this; omega))
    replace hp2 := Lib.hid hp2
    replace hs2 := Lib.hid hs2
    replace ho2 := Lib.hid ho2
    replace hm2 := Lib.hid hm2
    go_wp2_with fail
    go_ret
    exact ⟨_, c, ys, by rw [hN.out]; rfl, hp2.out.trans hp.out, hs2.out, by rw [hN.out]; exact ho2.out, hf.out, hM2.out⟩
/-! ### the last of each Inst -/
def lastOf (xs : List Rs) (i : Is) : Option Rs := xs.reverse.find? fun x => x.r.i == i
structure LastM (xs ys : List Rs) : Prop where
  nodup : ys.Pairwise fun a b => a.r.i ≠ b.r.i
  last : ∀ y ∈ ys, lastOf xs y.r.i = some y
  all : ∀ x ∈ xs, ∃ y ∈ ys, y.r.i = x.r.i
structure LastOf (xs ys : List Rs) : Prop where
  sorted : ys.Pairwise fun a b => isLt a.r.i b.r.i = true
  last : ∀ y ∈ ys, lastOf xs y.r.i = some y
  all : ∀ x ∈ xs, ∃ y ∈ ys, y.r.i = x.r.i
theorem lastOf_snoc (xs : List Rs) (x : Rs) (i : Is) : lastOf (xs ++ [x]) i = if x.r.i = i then some x else lastOf xs i := by
  unfold lastOf
  rw [List.reverse_append]
  show ([x] ++ xs.reverse).find? _ = _
  by_cases h : x.r.i = i
  · rw [if_pos h]; simp [h]
  · rw [if_neg h, List.singleton_append, List.find?_cons_of_neg (by simpa using h)]
def putM (x : Rs) (M : List Rs) : List Rs := x :: M.filter fun y => !(y.r.i == x.r.i)
theorem mapM_put (x : Rs) (M : List Rs) : mapM (putM x M) = putI' x.r.i (rsV x) (mapM M) := by
  unfold mapM putM putI'
  rw [List.map_cons, List.filter_map]
  rfl
theorem LastM.nil : LastM [] [] := ⟨List.Pairwise.nil, fun y hy => (List.not_mem_nil hy).elim, fun x hx => (List.not_mem_nil hx).elim⟩
theorem LastM.snoc {xs M : List Rs} (h : LastM xs M) (x : Rs) : LastM (xs ++ [x]) (putM x M) := by
  have hne : ∀ y ∈ M.filter (fun y => !(y.r.i == x.r.i)), y ∈ M ∧ y.r.i ≠ x.r.i := fun y hy => by
    have := List.mem_filter.1 hy
    exact ⟨this.1, by simpa using this.2⟩
  refine ⟨List.pairwise_cons.2 ⟨fun y hy => fun e => (hne y hy).2 e.symm, h.nodup.filter _⟩, fun y hy => ?_, fun z hz => ?_⟩
  · rw [lastOf_snoc]
    rcases List.mem_cons.1 hy with rfl | hy
    · rw [if_pos rfl]
    · rw [if_neg (fun e => (hne y hy).2 e.symm)]
      exact h.last y (hne y hy).1
  · by_cases e : z.r.i = x.r.i
    · exact ⟨x, List.mem_cons_self, e.symm⟩
    · rcases List.mem_append.1 hz with hz | hz
      · obtain ⟨y, hy, hyz⟩ := h.all z hz
        exact ⟨y, List.mem_cons_of_mem _ (List.mem_filter.2 ⟨hy, by rw [hyz]; simpa using e⟩), hyz⟩
      · simp at hz; subst hz; exact absurd rfl e
theorem isLt_total {a b : Is} (h : isLt b a = false) (hne : a ≠ b) : isLt a b = true := by
  obtain ⟨a1, a2⟩ := a
  obtain ⟨b1, b2⟩ := b
  unfold isLt at *
  simp only [decide_eq_false_iff_not, decide_eq_true_eq, ne_eq, Is.mk.injEq] at *
  omega
theorem LastM.sort {xs M ys : List Rs} (h : LastM xs M) (hp : ys.Perm M) (hs : ys.Pairwise fun a b => isLt b.r.i a.r.i = false) : LastOf xs ys := by
  have hnd : ys.Pairwise fun a b => a.r.i ≠ b.r.i := (hp.pairwise_iff (fun {a b} (h : a.r.i ≠ b.r.i) => h.symm)).2 h.nodup
  refine ⟨(hs.and hnd).imp fun ⟨h1, h2⟩ => isLt_total h1 h2, fun y hy => h.last y (hp.mem_iff.1 hy), fun x hx => ?_⟩
  obtain ⟨y, hy, he⟩ := h.all x hx
  exact ⟨y, hp.mem_iff.2 hy, he⟩
def LsPost (w : World) (xs : List Rs) (e : Ending) (w' : World) : Prop :=
  ∃ A n c ys, e = .returned (.slice A n c) ∧ LastOf xs ys ∧ OwR w' A n c ys ∧ Fresh w A ∧ Mod none_ w w'
set_option maxRecDepth 100000 in
set_option maxHeartbeats 8000000 in
theorem last_ok (w : World) (A : Option Addr) (n c : Nat) (xs : List Rs) (h : RdR w A n xs) (hi : ∀ x ∈ xs, inI x.r.i) (hn : n ≤ 100000) :
    Calls Tryz.prog 26 #[.slice A n c] w (LsPost w xs) := by
  have hl := Lib.hid h.len
  have hmd := Lib.hid (MapK.made w)
  have hmk := fun W => run_makeMap (P := Tryz.prog) 102 W
  have hs0 : (w.alloc (.map #[] 0)).heap.size = w.heap.size + 1 := by simp
  replace h := Lib.hid h
  replace hi := Lib.hid hi
  replace hs0 := Lib.hid hs0
  go_enter Tryz.func26, Tryz.ntmps26
  go_wp2_with fail
  go_loopw [9] (fun y wr => ∃ (j : Nat) (M : List Rs), y = .int .i64 j ∧ j ≤ n ∧ MapK wr w.heap.size (mapM M) ∧ LastM (xs.take j) M ∧ M.length ≤ j ∧ Mod none_ w wr) (fun y _ => n - (intOf y).toNat)
  case atStart => exact ⟨0, [], rfl, by omega, hmd.out, LastM.nil, by simp, (Mod.refl none_ w).alloc _⟩
  case round =>
    obtain ⟨j, M, rfl, hj, hM, hLM, hMl, hm⟩ := hrel
    by_cases hlt : j < n
    · obtain ⟨g, o, x, hA, hxm, hx, hrg⟩ := rdr_get (w := wr) (Rd.mod0 h.out hm) hlt
      subst hA
      unfold rsC at hrg
      have hz := Lib.hid (Blk.new wr 37 #[.int .i64 0, .int .i64 0, .int .i64 0, .int .i64 0, .int .i64 0, .int .i64 0, .int .i64 0, .int .i64 0, .string ⟨#[]⟩, .string ⟨#[]⟩, .int .i64 0, .slice none 0 0, .int .i64 0, .int .i64 0, .string ⟨#[]⟩, .bool false, .slice none 0 0])
      have hMn := Lib.hid hM.lt
      replace hM := Lib.hid hM
      replace hLM := Lib.hid hLM
      replace hm := Lib.hid hm
      replace hxm := Lib.hid hxm
      replace hx := Lib.hid hx
      replace hrg := Lib.hid hrg
      go_upto_region 5 with (first
        | (refine wpList_load_mid rfl 37 (.tmp 11) rfl g (o + j * 17) rfl _ _ hrg.out Tryz.underlying37 rfl rc_size ?_)
        | (refine wpList_store_blk rfl 37 (.tmp 5) (.tmp 12) rfl wr.heap.size 0 _ rfl rfl hz.out (by simp) rc_size (by rfl) #[.int .i64 x.r.i.r, .int .i64 x.r.i.n, .int .i64 x.r.bal, .int .i64 x.r.st, .int .i64 x.r.by_, .int .i64 x.r.e.o.c, .int .i64 x.r.e.o.s, .int .i64 x.r.e.o.k, .string (txt x.r.e.o.acct), .string (txt x.r.e.o.peer), .int .i64 x.r.e.o.sum, .slice x.L.a x.L.n x.L.c, .int .i64 x.r.e.o.per, .int .i64 x.r.e.o.hold, .string (txt x.r.e.o.note), .bool x.r.e.none, .slice x.D.a x.D.n x.D.c] rfl ?_; intro w2 hb2 hm2))
      have hm2' := ((Mod.refl none_ wr).alloc (.cells #[.int .i64 0, .int .i64 0, .int .i64 0, .int .i64 0, .int .i64 0, .int .i64 0, .int .i64 0, .int .i64 0, .string ⟨#[]⟩, .string ⟨#[]⟩, .int .i64 0, .slice none 0 0, .int .i64 0, .int .i64 0, .string ⟨#[]⟩, .bool false, .slice none 0 0] 37)).in_new (Nat.le_refl _) hm2
      have hM2 := hM.out.mod hm2' (fun h => h)
      have hroom : (mapM M).length + 1 < maxLen := by
        have : (mapM M).length = M.length := by simp [mapM]
        rw [this]; simp only [maxLen]; omega
      obtain ⟨w3, hrun, hM3, hm3, hs3⟩ := hM2.store_run Tryz.underlying102 hroom (hi.out x hxm.out) (rsV x)
      rw [← mapM_put] at hM3
      unfold isVal rsV at hrun
      have hmm := Lib.hid ((hm.out.trans hm2').then hm3 (fun i hi hk => by have : i = w.heap.size := hk; omega))
      have hLM' := Lib.hid (hLM.out.snoc x)
      have hPl : Hid ((putM x M).length ≤ j + 1) := Lib.hid (by unfold putM; have := List.length_filter_le (fun y : Rs => !(y.r.i == x.r.i)) M; simp only [List.length_cons]; omega)
      clear hm2 hm2' hM2 hm3 hs3
      replace hM3 := Lib.hid hM3
      replace hb2 := Lib.hid hb2
      go_wp2_with (first
        | (refine wpList_load_blk rfl 25 (.tmp 14) rfl wr.heap.size 0 rfl hb2.out [.int .i64 x.r.i.r, .int .i64 x.r.i.n] rfl Tryz.underlying25 rfl inst_size ?_)
        | (refine wpList_load_row rfl 37 (.tmp 5) rfl wr.heap.size rfl _ _ _ _ hb2.out Tryz.underlying37 rfl rc_size ?_))
      go_roundw
      case rel => exact ⟨j + 1, putM x M, by go_num, by omega, hM3.out, by rw [List.take_add_one, hx.out]; exact hLM'.out, hPl.out, hmm.out⟩
      case measure => simp [intOf]; omega
    · obtain rfl : j = n := by omega
      rw [List.take_of_length_le (by rw [hl.out]; exact Nat.le_refl _)] at hLM
      replace hM := Lib.hid hM
      replace hLM := Lib.hid hLM
      replace hm := Lib.hid hm
      go_wp2_with fail
      refine (values_ok wr w.heap.size).mono ?_
      rintro e w3 ⟨rfl, rfl⟩
      dsimp only
      have kS := Lib.hid (sortedR_ok (wr.alloc (.cells #[.map (some w.heap.size)] 102)) wr.heap.size w.heap.size M ((Blk.new wr _ #[.map (some w.heap.size)]).cell_ rfl) (by simp) (hM.out.alloc _) (by omega))
      go_wp2_with fail
      refine kS.out.mono ?_
      rintro e w4 ⟨A4, c4, ss, rfl, hp, hs, ho, hf, hm4⟩
      dsimp only
      have hend : Hid (LsPost w xs (.returned (.slice A4 M.length c4)) w4) := Lib.hid ⟨A4, _, c4, ss, rfl, hLM.out.sort hp hs, ho, fun a ha => Nat.le_trans (hm.out.alloc _).size (hf a ha), (hm.out.alloc _).trans hm4⟩
      clear hp hs ho hf hm4 kS
      go_wp2_with fail
      go_ret
      exact hend.out
end Go.Proofs.YtdnbclhidpkpgaaGreat
/-
  The law's small records, and lives. No condition.
-/
namespace Go.Proofs.YtdnbclhidpkpgaaGreat
set_option linter.unusedVariables false
set_option linter.unusedSimpArgs false
open Go.RowKit
def blR (rep bal : Int) : Rc := ⟨⟨rep, 1⟩, bal, 0, 0, en0⟩
def bl (rep bal : Int) : Rs := ⟨blR rep bal, ⟨none, 0, 0⟩, ⟨none, 0, 0⟩⟩
theorem scanR_recs : ∀ (xs : List Rs) (fs : List (List UInt8)), (∀ x ∈ xs, RtR x = true) → (∀ x ∈ xs, numsE x.r.e) → scanR (recsB xs ++ fs) = (xs.map (·.r) ++ (scanR fs).1, (logB xs).length + (scanR fs).2)
  | [], fs, _, _ => by simp [recsB, logB]
  | x :: xs, fs, h, hn => by
    have ih := scanR_recs xs fs (fun y hy => h y (List.mem_cons_of_mem _ hy)) (fun y hy => hn y (List.mem_cons_of_mem _ hy))
    have h1 : rdRec (recB x.r) = (x.r, 0) := rdRec_of (h x List.mem_cons_self) (hn x List.mem_cons_self)
    show scanR (recB x.r :: (recsB xs ++ fs)) = _
    rw [scanR_yes h1, ih]
    have hl : (logB (x :: xs)).length = 6 + (recB x.r).length + (logB xs).length := by
      show (frameOf (recB x.r) ++ logB xs).length = _
      rw [List.length_append, frameOf_length]
    rw [hl]
    simp only [List.map_cons, List.cons_append, Prod.mk.injEq, true_and]
    omega
theorem logScan_of (xs : List Rs) (h : ∀ x ∈ xs, RtR x = true) (hn : ∀ x ∈ xs, numsE x.r.e) (rest : List UInt8) : logScan (logB xs ++ rest) = (xs.map (·.r) ++ (logScan rest).1, (logB xs).length + (logScan rest).2) := by
  unfold logScan
  have := scan_flat (recsB xs) rest (recs_okL h hn)
  show scanR (scan ((recsB xs).flatMap frameOf ++ rest)).1 = _
  rw [this]
  exact scanR_recs xs _ h hn
theorem logScan_nil : logScan [] = ([], 0) := by unfold logScan; rw [scan_nil [] rfl]; rfl
theorem logScan_all (xs : List Rs) (h : ∀ x ∈ xs, RtR x = true) (hn : ∀ x ∈ xs, numsE x.r.e) : logScan (logB xs) = (xs.map (·.r), (logB xs).length) := by
  have := logScan_of xs h hn []
  rw [List.append_nil, logScan_nil] at this
  simpa using this
theorem last_two {a b : Rs} {ys : List Rs} (h : LastOf [a, b] ys) (he : a.r.i = b.r.i) : ys = [b] := by
  have hl : ∀ y ∈ ys, y = b := fun y hy => by
    have h1 := h.last y hy
    have h2 := lastOf_snoc [a] b y.r.i
    have e : ([a] ++ [b] : List Rs) = [a, b] := rfl
    rw [e, h1] at h2
    by_cases hb : b.r.i = y.r.i
    · rw [if_pos hb] at h2; exact Option.some.inj h2
    · rw [if_neg hb] at h2
      have h3 : lastOf [a] y.r.i = none := by
        unfold lastOf
        simp [he, hb]
      rw [h3] at h2; cases h2
  obtain ⟨y, hy, _⟩ := h.all b (by simp)
  cases ys with
  | nil => cases hy
  | cons z zs =>
    have hz := hl z List.mem_cons_self
    cases zs with
    | nil => rw [hz]
    | cons u us =>
      have hu := hl u (by simp)
      have hs := (List.pairwise_cons.1 h.sorted).1 u (by simp)
      rw [hz, hu] at hs
      unfold isLt at hs
      simp at hs
set_option maxRecDepth 100000 in
theorem blank_ok (w : World) (r b : Int) : Calls Tryz.prog 21 #[.int .i64 r, .int .i64 b] w fun e w' => e = .returned (.agg #[.int .i64 r, .int .i64 1, .int .i64 b, .int .i64 0, .int .i64 0, .int .i64 0, .int .i64 0, .int .i64 0, .string ⟨#[]⟩, .string ⟨#[]⟩, .int .i64 0, .slice none 0 0, .int .i64 0, .int .i64 0, .string ⟨#[]⟩, .bool false, .slice none 0 0]) ∧ Mod none_ w w' := by
  have hb0 := Lib.hid (Blk.new w 37 #[.int .i64 0, .int .i64 0, .int .i64 0, .int .i64 0, .int .i64 0, .int .i64 0, .int .i64 0, .int .i64 0, .string ⟨#[]⟩, .string ⟨#[]⟩, .int .i64 0, .slice none 0 0, .int .i64 0, .int .i64 0, .string ⟨#[]⟩, .bool false, .slice none 0 0])
  go_enter Tryz.func21, Tryz.ntmps21
  go_wp2_with (refine wpList_store_blk rfl 37 (.tmp 4) (.tmp 9) rfl w.heap.size 0 _ rfl rfl hb0.out (by simp) rc_size (by rfl) #[.int .i64 r, .int .i64 1, .int .i64 b, .int .i64 0, .int .i64 0, .int .i64 0, .int .i64 0, .int .i64 0, .string ⟨#[]⟩, .string ⟨#[]⟩, .int .i64 0, .slice none 0 0, .int .i64 0, .int .i64 0, .string ⟨#[]⟩, .bool false, .slice none 0 0] rfl ?_; intro w2 hb2 hm2; replace hb2 := Lib.hid hb2; replace hm2 := Lib.hid hm2)
  exact ret_row rfl w.heap.size rfl hb2.out Tryz.underlying37 rfl rc_size rfl ⟨rfl, ((Mod.refl none_ w).alloc _).in_new (Nat.le_refl _) hm2.out⟩
theorem bl_ok (r b : Int) : RsOk (bl r b) := ⟨by simp [bl], by simp [bl], (show (Lit.int .i64 en0.o.k).wf = true by decide), fun l hl => by cases hl⟩
theorem bl_nums (r b : Int) : numsE (bl r b).r.e := ⟨(show in64 en0.o.sum from ⟨by decide, by decide⟩), fun l hl => by cases hl⟩
theorem bl_mem (w : World) (r b : Int) : EnM w (bl r b).r.e (bl r b).L (bl r b).D := en0_mem w
theorem bl_in (r b : Int) (h : (Lit.int .i64 r).wf = true) : inI (bl r b).r.i := ⟨h, (show (Lit.int .i64 1).wf = true by decide)⟩
def twoL : List Rs := [bl 0 1, bl 0 2]
theorem len_two {l : List Rs} (h : l.length = 2) : ∃ a b, l = [a, b] := by
  cases l with
  | nil => simp at h
  | cons a l =>
    cases l with
    | nil => simp at h
    | cons b l =>
      cases l with
      | nil => exact ⟨a, b, rfl⟩
      | cons c l => simp at h
theorem two_inv {a b : Rs} (h : [a, b].map (·.r) = twoL.map (·.r)) : a.r = blR 0 1 ∧ b.r = blR 0 2 := by
  unfold twoL at h
  simp only [List.map_cons, List.map_nil, List.cons.injEq, and_true] at h
  exact h
theorem two_rt : ∀ x ∈ twoL, RtR x = true := fun x hx => by
  simp only [twoL, List.mem_cons, List.not_mem_nil, or_false] at hx
  rcases hx with rfl | rfl <;> decide
theorem two_nums : ∀ x ∈ twoL, numsE x.r.e := fun x hx => by
  simp only [twoL, List.mem_cons, List.not_mem_nil, or_false] at hx
  rcases hx with rfl | rfl <;> exact bl_nums _ _
theorem two_put : putR [] 0 1000 twoL = (0, logB twoL, 22) := by
  have h1 : (logB twoL).length = 22 := by decide +kernel
  unfold putR
  rw [if_pos (by rw [List.all_eq_true]; exact two_rt), if_neg (by simp [twoL]), if_pos (by rw [h1]; decide), h1]
  rfl
theorem two_list (w : World) : RsL (w.alloc (.cells #[.int .i64 0, .int .i64 1, .int .i64 1, .int .i64 0, .int .i64 0, .int .i64 0, .int .i64 0, .int .i64 0, .string ⟨#[]⟩, .string ⟨#[]⟩, .int .i64 0, .slice none 0 0, .int .i64 0, .int .i64 0, .string ⟨#[]⟩, .bool false, .slice none 0 0, .int .i64 0, .int .i64 1, .int .i64 2, .int .i64 0, .int .i64 0, .int .i64 0, .int .i64 0, .int .i64 0, .string ⟨#[]⟩, .string ⟨#[]⟩, .int .i64 0, .slice none 0 0, .int .i64 0, .int .i64 0, .string ⟨#[]⟩, .bool false, .slice none 0 0] 37)) (some ⟨w.heap.size, 0, none⟩) 2 twoL := by
  refine ⟨?_, ?_, ?_, two_nums⟩
  · exact rdn w 37 17 2 w.heap.size (#[.int .i64 0, .int .i64 1, .int .i64 1, .int .i64 0, .int .i64 0, .int .i64 0, .int .i64 0, .int .i64 0, .string ⟨#[]⟩, .string ⟨#[]⟩, .int .i64 0, .slice none 0 0, .int .i64 0, .int .i64 0, .string ⟨#[]⟩, .bool false, .slice none 0 0, .int .i64 0, .int .i64 1, .int .i64 2, .int .i64 0, .int .i64 0, .int .i64 0, .int .i64 0, .int .i64 0, .string ⟨#[]⟩, .string ⟨#[]⟩, .int .i64 0, .slice none 0 0, .int .i64 0, .int .i64 0, .string ⟨#[]⟩, .bool false, .slice none 0 0] : Array Value) (0, 0) rfl rfl
  · intro x hx
    simp only [twoL, List.mem_cons, List.not_mem_nil, or_false] at hx
    rcases hx with rfl | rfl <;> exact bl_mem _ _ _
  · intro x hx
    simp only [twoL, List.mem_cons, List.not_mem_nil, or_false] at hx
    rcases hx with rfl | rfl <;> exact bl_ok _ _
set_option maxRecDepth 100000 in
set_option maxHeartbeats 8000000 in
theorem lives_ok (w : World) : Calls Tryz.prog 9 #[] w fun e w' => e = .returned (.bool true) ∧ Mod none_ w w' := by
  go_enter Tryz.func9, Tryz.ntmps9
  go_wp2_with fail
  with_reducible refine (disk_new 1000 w).mono ?_
  rintro e w1 ⟨rfl, hd1, hm1⟩
  dsimp only
  have hr : (min (max (1000 : Int) 0) 65536).toNat = 1000 := by decide
  rw [hr] at hd1
  clear hr
  generalize hp : w.heap.size = p at *
  replace hp := Lib.hid hp
  replace hd1 := Lib.hid hd1
  replace hm1 := Lib.hid hm1
  go_wp2_with fail
  with_reducible refine (blank_ok _ 0 1).mono ?_
  rintro e w2 ⟨rfl, hm2⟩
  dsimp only
  replace hm2 := Lib.hid hm2
  go_wp2_with fail
  with_reducible refine (blank_ok _ 0 2).mono ?_
  rintro e w3 ⟨rfl, hm3⟩
  dsimp only
  have hm12 := (hm2.out.trans hm3).alloc (.cells #[.int .i64 0, .int .i64 1, .int .i64 1, .int .i64 0, .int .i64 0, .int .i64 0, .int .i64 0, .int .i64 0, .string ⟨#[]⟩, .string ⟨#[]⟩, .int .i64 0, .slice none 0 0, .int .i64 0, .int .i64 0, .string ⟨#[]⟩, .bool false, .slice none 0 0, .int .i64 0, .int .i64 1, .int .i64 2, .int .i64 0, .int .i64 0, .int .i64 0, .int .i64 0, .int .i64 0, .string ⟨#[]⟩, .string ⟨#[]⟩, .int .i64 0, .slice none 0 0, .int .i64 0, .int .i64 0, .string ⟨#[]⟩, .bool false, .slice none 0 0] 37)
  have hd3 := hd1.out.mod0 hm12
  have hM3 := Lib.hid (hm1.out.trans hm12)
  have hl3 := two_list w3
  have kP := put_ok _ p none 0 [] 0 1000 hd3 (some ⟨w3.heap.size, 0, none⟩) 2 2 twoL hl3 (by omega)
  rw [two_put] at kP
  clear hm12 hd3 hl3 hm2 hm3
  replace kP := Lib.hid kP
  go_wp2_with fail
  with_reducible refine kP.out.mono ?_
  rintro e w4 ⟨A4, c4, a4, l4, s4, rfl, he4, hd4, hn4, hm4⟩
  simp only [Prod.mk.injEq] at he4
  obtain ⟨rfl, rfl, rfl⟩ := he4
  dsimp only
  have hM4 := Lib.hid (hM3.out.then hm4 (fun i hi hk => by rcases hk with hk | ⟨a, ha, _⟩; (have := hp.out; omega); cases ha))
  clear hn4 hm4 kP
  replace hd4 := Lib.hid hd4
  go_wp2_with fail
  have h22 : (logB twoL).length = 22 := by decide +kernel
  have kB := disk_bytes p A4 c4 w4 ⟨logB twoL, 22, 1000, false⟩ hd4.out
  dsimp only at kB
  rw [h22] at kB
  with_reducible refine kB.mono ?_
  rintro e w5 ⟨A5, c5, rfl, ho5, hf5, hm5⟩
  dsimp only
  have hd5 := Lib.hid (hd4.out.mod0 hm5)
  have hM5 := Lib.hid (hM4.out.trans hm5)
  have kSc := logScan_ok w5 A5 22 c5 (logB twoL) ho5.rd ho5.2.1 (by have := ho5.2.2.1; simpa [maxLen] using this) (by omega)
  unfold LScanPost at kSc
  rw [logScan_all twoL two_rt two_nums, h22] at kSc
  clear kB ho5 hf5 hm5 h22
  replace kSc := Lib.hid kSc
  go_wp2_with fail
  with_reducible refine kSc.out.mono ?_
  rintro e w6 ⟨A6, n6, c6, xs6, rfl, hN6, hx6, hm6⟩
  dsimp only at hx6 ⊢
  have hn6 : n6 = 2 := by have h1 := hN6.len; have h2 := congrArg List.length hx6; simp [twoL] at h2; omega
  subst hn6
  obtain ⟨a6, b6, rfl⟩ := len_two hN6.len
  obtain ⟨ha6, hb6⟩ := two_inv hx6
  have hd6 := Lib.hid (hd5.out.mod0 hm6)
  have hM6 := Lib.hid (hM5.out.trans hm6)
  have hin : ∀ x ∈ [a6, b6], inI x.r.i := fun x hx => by
    simp only [List.mem_cons, List.not_mem_nil, or_false] at hx
    rcases hx with rfl | rfl
    · rw [ha6]; exact bl_in 0 1 (by decide)
    · rw [hb6]; exact bl_in 0 2 (by decide)
  have kL := Lib.hid (last_ok w6 A6 2 c6 [a6, b6] hN6.ow.rd hin (by omega))
  have hE6 := hN6.mem b6 (by simp)
  have hk6 := hN6.ok b6 (by simp)
  clear hm6 hin kSc hN6
  replace ha6 := Lib.hid ha6
  replace hb6 := Lib.hid hb6
  replace hE6 := Lib.hid hE6
  replace hk6 := Lib.hid hk6
  go_wp2_with fail
  with_reducible refine kL.out.mono ?_
  rintro e w7 ⟨A7, n7, c7, ys, rfl, hls, ho7, hf7, hm7⟩
  dsimp only
  have hys := last_two hls (by rw [ha6.out, hb6.out]; rfl)
  subst hys
  have hn7 := ho7.len
  simp only [List.length_cons, List.length_nil, Nat.zero_add] at hn7
  subst hn7
  obtain ⟨g, o, x, hA7, hxm, hx, hrg⟩ := rdr_get (j := 0) (Ow.rd ho7) (by omega)
  simp only [List.mem_cons, List.not_mem_nil, or_false] at hxm
  subst hxm
  subst hA7
  obtain ⟨xr, xL, xD⟩ := x
  simp only at ha6 hb6 hE6 hk6 hrg
  have hb6' := hb6.out
  subst hb6'
  have hd7 := Lib.hid (hd6.out.mod0 hm7)
  have hM7 := Lib.hid (hM6.out.trans hm7)
  have hE7 := Lib.hid (hE6.out.mod0 hm7)
  have kR := Lib.hid (fun W (h : Mod none_ w7 W) => rightR_ok W (blR 0 2) xL xD (hE7.out.mod0 h) hk6.out.1.1 hk6.out.1.2.1 hk6.out.1.2.2.1 hk6.out.1.2.2.2)
  replace kR := kR.out
  rw [show rightR (blR 0 2) = true by decide] at kR
  replace kR := Lib.hid kR
  clear hls ho7 hf7 hm7 hx kL
  have kB := disk_bytes p A4 c4 w7 ⟨logB twoL, 22, 1000, false⟩ hd7.out
  have h22 : (logB twoL).length = 22 := by decide +kernel
  dsimp only at kB
  rw [h22] at kB
  clear h22
  replace kB := Lib.hid kB
  replace hrg := Lib.hid hrg
  go_wp2_with fail
  with_reducible refine kB.out.mono ?_
  rintro e w8 ⟨A8, c8, rfl, ho8, hf8, hm8⟩
  dsimp only
  have hd8 := Lib.hid (hd7.out.mod0 hm8)
  have hM8 := Lib.hid (hM7.out.trans hm8)
  have hr8 := rangeAt_mod hrg.out hm8
  rw [Nat.zero_mul, Nat.add_zero] at hr8
  have c2 : w8.cell? ⟨g, o + 2, none⟩ = some (.int .i64 2) := hr8 2 _ rfl
  have hm8h := Lib.hid hm8
  clear ho8 hf8 hm8 kB
  replace hr8 := Lib.hid hr8
  go_wp2_with (refine wpList_step (fun K hK => ?_); rw [if_pos (by rfl)]; refine wp_load_mid 37 (.tmp 53) rfl g o rfl _ _ hr8.out Tryz.underlying37 rfl rc_size ?_; refine hK _ _ ?_)
  refine (kR.out _ hm8h.out).mono ?_
  rintro e w9 ⟨rfl, hm9⟩
  dsimp only
  have hd9 := Lib.hid (hd8.out.mod0 hm9)
  have hM9 := Lib.hid (hM8.out.trans hm9)
  have kSu := Lib.hid (disk_sure p 22 w9 (show w9.cell? ⟨p, 1, none⟩ = some (.int .i64 22) from hd9.out.c1))
  clear hm9
  go_wp2_with fail
  with_reducible refine kSu.out.mono ?_
  rintro e w10 ⟨rfl, rfl⟩
  dsimp only
  go_wp2_with fail
  go_ret
  exact ⟨rfl, hM9.out⟩
end Go.Proofs.YtdnbclhidpkpgaaGreat
