import Derived.Test.YtfkfiokkjjnhiaaGreatUp13
import Derived.Test.YtfkfiokkjjnhiaaGreatUp12
import Derived.Test.YtfkfiokkjjnhiaaGreatUp11
import Derived.Sort.Grow
import Derived.Shelf.SlSortCmp.WholeK
import Derived.Ground.SlsfProg
import Derived.Test.YtfkfiokkjjnhiaaGreatProg
import Derived.Test.YtfkfiokkjjnhiaaGreatUp9
import Derived.Shelf.SlSortCmp.NoneTotal
set_option linter.unusedVariables false
set_option linter.unusedSimpArgs false
set_option maxHeartbeats 16000000
namespace Go.Proofs.YtfkfiokkjjnhiaaGreat
open Go.RowKit Go.Sort Go.Shelf
attribute [local go_sem] Oper.semAt_some
def apAssignR : Code := (Code.region 2 #[{ dst := some 5, op := Op.alloc 57, type := 0, pos := "iter.go:51", after := #[], guard := none }, { dst := none, op := Op.store 57 (Operand.tmp 5) (Operand.tmp 7), type := 0, pos := "iter.go:51", after := #[{ on := 0, ground := Ground.data }, { on := 0, ground := Ground.phase }], guard := none }] false)
def apBodyR : Code := (Code.block 1 (Code.region 3 #[{ dst := some 8, op := Op.load 35 (Operand.tmp 2), type := 35, pos := "iter.go:52", after := #[], guard := none }, { dst := some 9, op := Op.load 57 (Operand.tmp 5), type := 57, pos := "iter.go:52", after := #[], guard := none }, { dst := some 10, op := Op.buildSlice 35 1 #[(0, Operand.tmp 9)], type := 35, pos := "iter.go:52", after := #[{ on := 1, ground := Ground.data }], guard := none }, { dst := some 11, op := Op.call { callee := Callee.builtin Builtin.append, args := #[Operand.tmp 8, Operand.tmp 10], argTypes := #[35, 35] }, type := 35, pos := "iter.go:52", after := #[{ on := 0, ground := Ground.data }, { on := 2, ground := Ground.data }], guard := none }, { dst := none, op := Op.store 35 (Operand.tmp 2) (Operand.tmp 11), type := 0, pos := "iter.go:52", after := #[{ on := 3, ground := Ground.data }, { on := 3, ground := Ground.chain }, { on := 0, ground := Ground.phase }, { on := 1, ground := Ground.phase }, { on := 2, ground := Ground.phase }, { on := 3, ground := Ground.phase }], guard := none }] false))
def apRecR (fn : FuncId) (sv : Value) (Bs D : Nat) (st : LoopState) (pend : Option Code) : Loop :=
 { state := st, pending := pend, fn, tmps := #[.slice none 0 0, sv, .pointer (some ⟨Bs, 0, none⟩), undef, .slice none 0 0, undef, sv, undef, undef, undef, undef, undef, undef], params := #[7], assign := apAssignR, body := apBodyR, defers := D }
structure ApAtR (w0 : World) (fn : FuncId) (sv : Value) (Bs l D : Nat) (ss : List Rs) (W : World) : Prop where
 box : ∃ v, W.heap[Bs]? = some (.cells #[v] 35 (0, 0)) ∧ W.ownsRow w0.heap.size 57 17 v ss.length (rss ss) ∧ (v = .slice none 0 0 ↔ ss = [])
 L : W.heap[l]? = some (.loop (apRecR fn sv Bs D .ready none))
 K : W.heap[D]? = some (.deferred (some []))
 below : Below w0.heap.size w0 W
theorem ap_abidesR (w0 : World) (fn : FuncId) (sv : Value) (Bs l D B : Nat) (hB : w0.heap.size ≤ B) : AbidesFrom B (ApAtR w0 fn sv Bs l D) := fun s W W' row h hg hrow => by
 have hrow' : ∀ r, row = some r → ∃ o : Obj, W.heap[r]? = some o ∧ o.isWalk = true := fun r e => (hrow r e).2
 obtain ⟨v, hv, hr, hn⟩ := h.box
 exact ⟨⟨v, (grownBy_keeps hg hrow' hv rfl).trans hv, ownsRow_abides_a hr hg hrow', hn⟩, (grownBy_keeps hg hrow' h.L rfl).trans h.L, (grownBy_keeps hg hrow' h.K rfl).trans h.K,
  h.below.grown hg h.below.size (fun k e => Nat.le_trans hB (hrow k e).1)⟩
set_option maxRecDepth 100000
theorem apYieldR (F : Fence) (m : Nat) (w0 : World) (fn : FuncId) (hfn : F.fn fn) (sv : Value) (Bs l D : Nat) (hBl : Bs ≠ l) (hDl : D ≠ l) (hDB : D ≠ Bs) (h0B : w0.heap.size ≤ Bs) (h0l : w0.heap.size ≤ l)
    (N : Nat) (hN : N ≤ maxLen) (hNb : N * 192 ≤ 140737488355328) (ss : List Rs) (x : Rs) (W : World) (h : ApAtR w0 fn sv Bs l D ss W) (hlen : ss.length < N) :
    YieldAt F m Tryz.prog l #[rsV x] W fun e W' => e = .returned (.bool true) ∧ ApAtR w0 fn sv Bs l D (ss ++ [x]) W' ∧ KeepsWalks W W' := by
  obtain ⟨i0, hi, hz0, hz1, hz2⟩ := info_parts rcinfo
  obtain ⟨v, hv, hrow, _⟩ := h.box
  refine ⟨fn, #[.slice none 0 0, sv, .pointer (some ⟨Bs, 0, none⟩), undef, .slice none 0 0, undef, sv, rsV x, undef, undef, undef, undef, undef], apAssignR, apBodyR, by simpa [apRecR] using run_yield (P := Tryz.prog) (args := #[rsV x]) h.L rfl, roundIn_of_wpIn hfn ?_⟩
  have hl : l < W.heap.size := (Array.getElem?_eq_some_iff.1 h.L).1
  have hz := zH (Blk.new W 57 #[.int .i64 0, .int .i64 0, .int .i64 0, .int .i64 0, .int .i64 0, .int .i64 0, .int .i64 0, .int .i64 0, .string ⟨#[]⟩, .string ⟨#[]⟩, .int .i64 0, .slice none 0 0, .int .i64 0, .int .i64 0, .string ⟨#[]⟩, .bool false, .slice none 0 0])
  have hB0 : Bs < W.heap.size := (Array.getElem?_eq_some_iff.1 hv).1
  have hD0 : D < W.heap.size := (Array.getElem?_eq_some_iff.1 h.K).1
  unfold apAssignR rsV
  gi_wp2_with (first
    | (refine wpListIn_store_blk rfl 57 (.tmp 5) (.tmp 7) rfl W.heap.size 0 _ rfl rfl hz.out (by simp) rc_size (by rfl) #[.int .i64 x.r.i.r, .int .i64 x.r.i.n, .int .i64 x.r.bal, .int .i64 x.r.st, .int .i64 x.r.by_, .int .i64 x.r.e.o.c, .int .i64 x.r.e.o.s, .int .i64 x.r.e.o.k, .string (txt x.r.e.o.acct), .string (txt x.r.e.o.peer), .int .i64 x.r.e.o.sum, .slice x.L.a x.L.n x.L.c, .int .i64 x.r.e.o.per, .int .i64 x.r.e.o.hold, .string (txt x.r.e.o.note), .bool x.r.e.none, .slice x.D.a x.D.n x.D.c] rfl ?_
       intro W1 hb1 hm1
       have hgn := grown_new (World.grownBy_alloc W (.cells #[.int .i64 0, .int .i64 0, .int .i64 0, .int .i64 0, .int .i64 0, .int .i64 0, .int .i64 0, .int .i64 0, .string ⟨#[]⟩, .string ⟨#[]⟩, .int .i64 0, .slice none 0 0, .int .i64 0, .int .i64 0, .string ⟨#[]⟩, .bool false, .slice none 0 0] 57) none) (Nat.le_refl _) hm1
       have hL1 : W1.heap[l]? = some (.loop (apRecR fn sv Bs D .ready none)) := (hgn.block l hl (by simp)).trans h.L
       have hbr := run_beginRound (P := Tryz.prog) hL1 rfl)
    | fail)
  have hv1 : W1.heap[Bs]? = some (.cells #[v] 35 (0, 0)) := (hgn.block Bs hB0 (by simp)).trans hv
  have hK1 : W1.heap[D]? = some (.deferred (some [])) := (hgn.block D hD0 (by simp)).trans h.K
  have hrow1 : W1.ownsRow w0.heap.size 57 17 v ss.length (rss ss) := hrow.kept hgn (Classical.em _)
  have hbb1 : Below w0.heap.size w0 W1 := h.below.grown hgn h.below.size (fun k e => by cases e)
  have hk1 : KeepsWalks W W1 := KeepsWalks.of_grownBy hgn (fun j o hj => by cases hj)
  obtain ⟨W2, hW2⟩ : ∃ W2, W1.putObj l (.loop { apRecR fn sv Bs D .ready none with state := .busy }) = W2 := ⟨_, rfl⟩
  rw [hW2] at hbr
  refine ⟨W2, hbr, ?_⟩
  have hg2 : W1.grownBy W2 (some l) := by rw [← hW2]; exact grownBy_putObj_a _ _ _
  have hk2 : KeepsWalks W W2 := hk1.trans (by rw [← hW2]; exact KeepsWalks.putObj _ hL1 rfl)
  have hb5 : Blk W2 W.heap.size 57 #[.int .i64 x.r.i.r, .int .i64 x.r.i.n, .int .i64 x.r.bal, .int .i64 x.r.st, .int .i64 x.r.by_, .int .i64 x.r.e.o.c, .int .i64 x.r.e.o.s, .int .i64 x.r.e.o.k, .string (txt x.r.e.o.acct), .string (txt x.r.e.o.peer), .int .i64 x.r.e.o.sum, .slice x.L.a x.L.n x.L.c, .int .i64 x.r.e.o.per, .int .i64 x.r.e.o.hold, .string (txt x.r.e.o.note), .bool x.r.e.none, .slice x.D.a x.D.n x.D.c] := by rw [← hW2]; exact (World.putObj_heap_other (by omega)).trans hb1
  have hv2 : W2.heap[Bs]? = some (.cells #[v] 35 (0, 0)) := by rw [← hW2]; exact (World.putObj_heap_other hBl).trans hv1
  have hK2 : W2.heap[D]? = some (.deferred (some [])) := by rw [← hW2]; exact (World.putObj_heap_other hDl).trans hK1
  have hL2 : W2.heap[l]? = some (.loop { apRecR fn sv Bs D .ready none with state := .busy }) := by rw [← hW2]; exact World.putObj_heap_same (Nat.lt_of_lt_of_le hl hgn.size)
  have hrow2 : W2.ownsRow w0.heap.size 57 17 v ss.length (rss ss) := hrow1.kept hg2 (ownsRow_ne_a hrow1 hL1 (fun cur e => by first | cases e | exact absurd (Obj.cells.inj e).2.1 (by decide)))
  have hb2 : Below w0.heap.size w0 W2 := hbb1.grown hg2 hbb1.size (fun k e => by cases e; exact h0l)
  obtain ⟨hc2, hf2⟩ := cell_of_box_a hv2
  have hBlt : Bs < W2.heap.size := (Array.getElem?_eq_some_iff.1 hv2).1
  have hl2 : l < W2.heap.size := (Array.getElem?_eq_some_iff.1 hL2).1
  have hDlt : D < W2.heap.size := (Array.getElem?_eq_some_iff.1 hK2).1
  have ne_of : ∀ {j : Nat} {o : Obj}, W2.heap[j]? = some o → (∀ cur, o ≠ .cells cur 57 (0, 0)) → some j ≠ v.ownBlock := fun hj hno => by
    rcases ownsRow_ne_a hrow2 hj hno with e | e
    · rw [e]; simp
    · exact fun e' => e e'.symm
  have hone := rdR_one W2 x
  unfold RdR rss at hone
  obtain ⟨hon1, hon2⟩ := hone
  obtain ⟨ad1, had1, hcell1⟩ := hon2 (by omega)
  cases had1
  have hrx : [x].flatMap rsC = rsC x := by simp
  rw [hrx] at hcell1
  clear hm1 hgn hz hv1 hK1 hrow1 hbb1 hk1 hL1 hb1 hbr hW2 hg2
  unfold apBodyR
  gi_wp2_with (first
    | (refine wpListIn_load_blk rfl 57 (.tmp 5) rfl W.heap.size 0 rfl hb5 [.int .i64 x.r.i.r, .int .i64 x.r.i.n, .int .i64 x.r.bal, .int .i64 x.r.st, .int .i64 x.r.by_, .int .i64 x.r.e.o.c, .int .i64 x.r.e.o.s, .int .i64 x.r.e.o.k, .string (txt x.r.e.o.acct), .string (txt x.r.e.o.peer), .int .i64 x.r.e.o.sum, .slice x.L.a x.L.n x.L.c, .int .i64 x.r.e.o.per, .int .i64 x.r.e.o.hold, .string (txt x.r.e.o.note), .bool x.r.e.none, .slice x.D.a x.D.n x.D.c] rfl Tryz.underlying57 rfl rc_size ?_)
    | (gi_at_builtin; refine wpListIn_append_own _ rfl _ _ 35 rfl w0.heap.size 57 i0 _ 17 192 Tryz.underlying35 hi hz0 hz1 hz2 rfl (by decide) _ _ _ rfl (hrow2.alloc _) ⟨W2.heap.size, 0, none⟩ 1 1 (rsC x) rfl rfl hcell1 (fun u hu => rss_one [x] u (by unfold rss; rw [hrx]; exact hu)) (by omega) (by omega) (by have := hb2.size; simp; omega) ?_; intro v' w3 hown' hg3 hnil3
       have hv3 : w3.heap[Bs]? = some (.cells #[v] 35 (0, 0)) := (hg3.block Bs (by simp; omega) (ne_of hv2 (fun cur e => by first | cases e | exact absurd (Obj.cells.inj e).2.1 (by decide)))).trans ((Below.heap_alloc _ _ Bs hBlt).trans hv2)
       obtain ⟨hc3, hf3⟩ := cell_of_box_a hv3
       obtain ⟨g', cap', cur', rfl, hbase', hgb', hr1, hr2, hr3, hr4⟩ : ∃ g' cap' cur', v' = .slice (some ⟨g', 0, none⟩) (ss.length + 1) cap' ∧ w0.heap.size ≤ g' ∧ w3.heap[g']? = some (.cells cur' 57 (0, 0)) ∧ ss.length + 1 ≤ cap' ∧ cap' ≤ maxLen ∧ cur'.size = cap' * 17 ∧ cur'.toList.take ((ss.length + 1) * 17) = rss ss ++ rsC x := by
         rcases hown'.2 with ⟨_, h0⟩ | h'
         · exact absurd h0 (by omega)
         · exact h'
       go_frame)
    | fail)
  have hg3' : (W2.alloc (.cells #[.int .i64 x.r.i.r, .int .i64 x.r.i.n, .int .i64 x.r.bal, .int .i64 x.r.st, .int .i64 x.r.by_, .int .i64 x.r.e.o.c, .int .i64 x.r.e.o.s, .int .i64 x.r.e.o.k, .string (txt x.r.e.o.acct), .string (txt x.r.e.o.peer), .int .i64 x.r.e.o.sum, .slice x.L.a x.L.n x.L.c, .int .i64 x.r.e.o.per, .int .i64 x.r.e.o.hold, .string (txt x.r.e.o.note), .bool x.r.e.none, .slice x.D.a x.D.n x.D.c] 57)).grownBy w3 v.ownBlock := hg3
  have hL3 : w3.heap[l]? = some (.loop { apRecR fn sv Bs D .ready none with state := .busy }) := (hg3'.block l (by simp; omega) (ne_of hL2 (fun cur e => by first | cases e | exact absurd (Obj.cells.inj e).2.1 (by decide)))).trans ((Below.heap_alloc _ _ l hl2).trans hL2)
  have hK3 : w3.heap[D]? = some (.deferred (some [])) := (hg3'.block D (by simp; omega) (ne_of hK2 (fun cur e => by first | cases e | exact absurd (Obj.cells.inj e).2.1 (by decide)))).trans ((Below.heap_alloc _ _ D hDlt).trans hK2)
  obtain ⟨w4, hw4⟩ : ∃ w4, w3.setCell ⟨Bs, 0, none⟩ (.slice (some ⟨g', 0, none⟩) (ss.length + 1) cap') = w4 := ⟨_, rfl⟩
  rw [hw4]
  have hg4 : w3.grownBy w4 (some Bs) := by rw [← hw4]; exact grownBy_setCell0_a _ _ _
  have hv4 : w4.heap[Bs]? = some (.cells #[.slice (some ⟨g', 0, none⟩) (ss.length + 1) cap'] 35 (0, 0)) := by rw [← hw4]; exact heap_setCell_box_a _ hv3
  have hL4 : w4.heap[l]? = some (.loop { apRecR fn sv Bs D .ready none with state := .busy }) := (hg4.block l (Array.getElem?_eq_some_iff.1 hL3).1 (fun e => hBl (by cases e; rfl))).trans hL3
  have hK4 : w4.heap[D]? = some (.deferred (some [])) := (hg4.block D (Array.getElem?_eq_some_iff.1 hK3).1 (fun e => hDB (by cases e; rfl))).trans hK3
  have hrow4 := hown'.kept hg4 (ownsRow_ne_a hown' hv3 (fun cur e => by first | cases e | exact absurd (Obj.cells.inj e).2.1 (by decide)))
  have hl4 : l < w4.heap.size := (Array.getElem?_eq_some_iff.1 hL4).1
  have hb3 : Below w0.heap.size w0 w3 := (hb2.alloc hb2.size _).grown hg3' (by have := hb2.size; simp; omega) (fun k e => (hrow2.lt k e).1)
  have hb4 : Below w0.heap.size w0 w4 := hb3.grown hg4 hb3.size (fun k e => by cases e; exact h0B)
  have hk4 : KeepsWalks W w4 := ((hk2.trans (KeepsWalks.alloc _ _)).trans (KeepsWalks.of_grownBy hg3' (ownsRow_not_walk_a (hrow2.alloc _)))).trans (by rw [← hw4]; exact KeepsWalks.setCell _ _ _)
  clear hw4
  refine ⟨_, _, run_endRound none hL4, rfl, ⟨⟨_, (World.putObj_heap_other hBl).trans hv4, ?_, by simp⟩, World.putObj_heap_same hl4, (World.putObj_heap_other hDl).trans hK4, hb4.grown (grownBy_putObj_a _ _ _) hb4.size (fun k e => by cases e; exact h0l)⟩, hk4.trans (KeepsWalks.putObj _ hL4 rfl)⟩
  have := hrow4.kept (grownBy_putObj_a w4 l (.loop { { apRecR fn sv Bs D .ready none with state := .busy } with state := if (none : Option Code).isNone then .ready else .done, pending := none })) (ownsRow_ne_a hrow4 hL4 (fun cur e => by first | cases e | exact absurd (Obj.cells.inj e).2.1 (by decide)))
  rw [show rss (ss ++ [x]) = rss ss ++ rsC x by rw [rss_append]; unfold rss; rw [hrx]]
  simpa using this
theorem appendSeqR_in (F : Fence) (n : Nat) (h11 : F.fn 211) (hro : F.round = none) (hn : 2 ≤ n) (g : Nat) (lb : Array Value) (hFg : F.fn g) (eg : ∀ args w, (callFunc g args).run Tryz.prog w = .ok (.enter g args) w)
    (S : List Rs → Prop) (N : Nat) (hN : N ≤ maxLen) (hNb : N * 192 ≤ 140737488355328) (w : World) (hseq : SeqGives F (n - 1) Tryz.prog g lb rsV S N w) :
    CallsIn F n Tryz.prog 211 #[.slice none 0 0, .func (.func g) #[] lb] w fun e w' => ∃ (v : Value) (ss : List Rs), e = .returned v ∧ S ss ∧ w'.ownsRow w.heap.size 57 17 v ss.length (rss ss) ∧ (v = .slice none 0 0 ↔ ss = []) ∧ Below w.heap.size w w' := by
  have h1 : 1 ≤ n := by omega
  refine callsIn_of_wp_marks Tryz.func211 rfl h11 ?_ hro
  simp only [Tryz.ntmps211, List.size_toArray, List.length_cons, List.length_nil, Nat.reduceAdd, Nat.reduceSub, Array.replicate_succ, Array.replicate_zero, List.push_toArray, List.append_toArray, List.nil_append, List.cons_append]
  gi_wp2
  refine wpIn_rangeFunc ?_
  intro fn hfn
  rw [hro]
  obtain ⟨W0, hW0⟩ : ∃ W0, w.alloc (.cells #[.slice none 0 0] 35) = W0 := ⟨_, rfl⟩
  have hs0 : W0.heap.size = w.heap.size + 1 := by rw [← hW0]; simp
  have hv0 : W0.heap[w.heap.size]? = some (.cells #[.slice none 0 0] 35 (0, 0)) := by rw [← hW0]; exact World.alloc_heap_new w _
  have hb0 : Below w.heap.size w W0 := by rw [← hW0]; exact (Below.refl _ w).alloc (Nat.le_refl _) _
  rw [hW0]
  obtain ⟨W1, hW1⟩ : ∃ W1, (W0.alloc (.deferred (some []))).alloc (.loop (apRecR fn (.func (.func g) #[] lb) w.heap.size W0.heap.size .ready none)) = W1 := ⟨_, rfl⟩
  have hold : ∀ k, k < W0.heap.size → W1.heap[k]? = W0.heap[k]? := fun k hk => by
    rw [← hW1]; exact (Below.heap_alloc _ _ k (by simp; omega)).trans (Below.heap_alloc _ _ k hk)
  have hb1 : Below w.heap.size w W1 := by rw [← hW1]; exact (hb0.alloc hb0.size _).alloc (by have := hb0.size; simp; omega) _
  have hs1 : W1.heap.size = W0.heap.size + 2 := by rw [← hW1]; simp
  have hM : ApAtR w fn (.func (.func g) #[] lb) w.heap.size (W0.heap.size + 1) W0.heap.size [] W1 :=
    ⟨⟨_, (hold w.heap.size (by omega)).trans hv0, ⟨rfl, .inl ⟨rfl, rfl⟩⟩, by simp⟩,
     by rw [← hW1]; have := World.alloc_heap_new (W0.alloc (.deferred (some []))) (.loop (apRecR fn (.func (.func g) #[] lb) w.heap.size W0.heap.size .ready none)); rwa [World.size_alloc] at this,
     by rw [← hW1]; exact (Below.heap_alloc _ _ _ (by simp)).trans (World.alloc_heap_new W0 _), hb1⟩
  refine ⟨W0.heap.size + 1, [{ target := .collected W0.heap.size, args := #[] }], W1, { target := .fn (.func g) lb, args := #[.func (.yield (W0.heap.size + 1)) #[] #[]] }, W1, g,
    #[.func (.yield (W0.heap.size + 1)) #[] #[]] ++ lb, W1, ?_, ?_, ?_, ?_, fun _ => h1, ?_⟩
  · rw [← hW1]; exact run_enterLoop_outer _ _ _ _ _
  · simp [resolve, go_sem]
  · intro f' hf'; simp [Target.leads] at hf'; subst hf'; exact hFg
  · simp [invoke, go_sem, eg]
  · refine (hseq (W0.heap.size + 1) (ApAtR w fn (.func (.func g) #[] lb) w.heap.size (W0.heap.size + 1) W0.heap.size) W1 hb1 (ap_abidesR _ _ _ _ _ _ _ hb1.size)
      (fun pre x W hJ hl => apYieldR F (n - 1 - 1) w fn hfn _ w.heap.size (W0.heap.size + 1) W0.heap.size (by omega) (by omega) (by omega) (Nat.le_refl _) (by omega) N hN hNb pre x W hJ hl) hM).mono ?_
    rintro e W2 ⟨⟨v0, rfl⟩, ss, hS, h2⟩
    obtain ⟨v, hv, hrow, hnil⟩ := h2.box
    have hend := run_endLoop (P := Tryz.prog) h2.L (by simp [apRecR])
    obtain ⟨W3, hW3⟩ : ∃ W3, W2.putObj (W0.heap.size + 1) (.loop { apRecR fn (.func (.func g) #[] lb) w.heap.size W0.heap.size .ready none with state := .exhausted }) = W3 := ⟨_, rfl⟩
    rw [hW3] at hend
    have hg3 : W2.grownBy W3 (some (W0.heap.size + 1)) := by rw [← hW3]; exact grownBy_putObj_a _ _ _
    have hv3 : W3.heap[w.heap.size]? = some (.cells #[v] 35 (0, 0)) := by rw [← hW3]; exact (World.putObj_heap_other (by omega)).trans hv
    have hK3 : W3.heap[W0.heap.size]? = some (.deferred (some [])) := by rw [← hW3]; exact (World.putObj_heap_other (by omega)).trans h2.K
    have hrow3 := hrow.kept hg3 (ownsRow_ne_a hrow h2.L (fun cur e => by first | cases e | exact absurd (Obj.cells.inj e).2.1 (by decide)))
    have hb3 : Below w.heap.size w W3 := h2.below.grown hg3 h2.below.size (fun k e => by cases e; omega)
    obtain ⟨hc3, hf3⟩ := cell_of_box_a hv3
    clear hW3
    refine ⟨none, W3, hend, ?_⟩
    gi_wp2
    rw [← hs0]
    refine ⟨by simp, .inl ⟨_, _, rfl, run_takeDeferred hK3, ?_⟩⟩
    exact ⟨_, results_tmp rfl _ _ _, v, ss, rfl, hS, hrow3.kept (grownBy_putObj_a _ _ _) (ownsRow_ne_a hrow3 hK3 (fun cur e => by first | cases e | exact absurd (Obj.cells.inj e).2.1 (by decide))), hnil, hb3.grown (grownBy_putObj_a _ _ _) hb3.size (fun k e => by cases e; omega)⟩
theorem collectR_in (F : Fence) (n : Nat) (h8 : F.fn 165) (h11 : F.fn 211) (hro : F.round = none) (hn : 3 ≤ n) (g : Nat) (lb : Array Value) (hFg : F.fn g) (eg : ∀ args w, (callFunc g args).run Tryz.prog w = .ok (.enter g args) w)
  (S : List Rs → Prop) (N : Nat) (hN : N ≤ maxLen) (hNb : N * 192 ≤ 140737488355328) (w : World) (hseq : SeqGives F (n - 1 - 1) Tryz.prog g lb rsV S N w) :
  CallsIn F n Tryz.prog 165 #[.func (.func g) #[] lb] w fun e w' => ∃ (v : Value) (ss : List Rs), e = .returned v ∧ S ss ∧ w'.ownsRow w.heap.size 57 17 v ss.length (rss ss) ∧ (v = .slice none 0 0 ↔ ss = []) ∧ Below w.heap.size w w' := by
 have h1 : 1 ≤ n := by omega
 have e11 : ∀ args w, (callFunc 211 args).run Tryz.prog w = .ok (.enter 211 args) w := fun args w => rfl
 refine callsIn_of_wp Tryz.func165 rfl h8 ?_ hro
 simp only [Tryz.ntmps165, List.size_toArray, List.length_cons, List.length_nil, Nat.reduceAdd, Nat.reduceSub, Array.replicate_succ, Array.replicate_zero, List.push_toArray, List.append_toArray, List.nil_append, List.cons_append]
 gi_wp2_with (gi_at_fn 211; refine (appendSeqR_in F (n - 1) h11 hro (by omega) g lb hFg eg S N hN hNb _ hseq).mono ?_; rintro e w' ⟨v, ss, rfl, hS, hrow, hnil, hb⟩)
 go_ret
 exact ⟨v, ss, rfl, hS, hrow, hnil, hb⟩
end Go.Proofs.YtfkfiokkjjnhiaaGreat
namespace Go.Proofs.YtfkfiokkjjnhiaaGreat
open Go.RowKit
theorem rangeAt_mod {w w' : World} {g o : Nat} {vs : List Value} (h : w.rangeAt g o vs) (hm : Mod none_ w w') : w'.rangeAt g o vs := fun j v hv => hm.cell_some (h j v hv) (fun h => h)
structure RsN (w W : World) (A : Option Addr) (n c : Nat) (xs : List Rs) : Prop where
 ow : OwR W A n c xs
 mem : RsM W xs
 far : FarsR (fp A) xs
 new : Fresh w A
 news : ∀ x ∈ xs, Fresh w x.L.a ∧ Fresh w x.D.a
 ok : ∀ x ∈ xs, RsOk x ∧ numsE x.r.e
theorem RsN.nil (w W : World) : RsN w W none 0 0 [] := ⟨Ow.nil _ _ _, fun x hx => by (cases hx), fun x hx => by (cases hx), fun a ha => by (cases ha), fun x hx => by (cases hx), fun x hx => by (cases hx)⟩
theorem RsN.mod0 {w W W' : World} {A : Option Addr} {n c : Nat} {xs : List Rs} (h : RsN w W A n c xs) (hm : Mod none_ W W') : RsN w W' A n c xs := ⟨h.ow.mod0 hm, h.mem.mod0 hm, h.far, h.new, h.news, h.ok⟩
theorem RsN.len {w W : World} {A : Option Addr} {n c : Nat} {xs : List Rs} (h : RsN w W A n c xs) : xs.length = n := OwR.len h.ow
theorem RsN.push {w w1 W W' : World} {A A' : Option Addr} {n c c' : Nat} {xs : List Rs} (h : RsN w W A n c xs) (h0 : w.heap.size ≤ W.heap.size) {x : Rs} (hx : EnM W x.r.e x.L x.D) (hA1 : ∀ k, fp A k → k < w1.heap.size) (hw1 : w.heap.size ≤ w1.heap.size) (hxf : Fresh w1 x.L.a ∧ Fresh w1 x.D.a) (hok : RsOk x ∧ numsE x.r.e)
  (ho : OwR W' A' (n + 1) c' (xs ++ [x])) (hm : Mod (fp A) W W') (hA : A' = A ∨ A' = some ⟨W.heap.size, 0, none⟩) : RsN w W' A' (n + 1) c' (xs ++ [x]) := by
 have hxfar : FarR (fp A) x := ⟨fun _ k ⟨a, ha, hk⟩ hf => by have := hxf.1 a ha; have := hA1 k hf; omega, fun _ k ⟨a, ha, hk⟩ hf => by have := hxf.2 a ha; have := hA1 k hf; omega⟩
 have hall : ∀ y ∈ xs ++ [x], EnM W y.r.e y.L y.D ∧ FarR (fp A) y := fun y hy => by
  rcases List.mem_append.1 hy with hy | hy
  ·exact ⟨h.mem y hy, h.far y hy⟩
  ·simp at hy; subst hy; exact ⟨hx, hxfar⟩
 refine ⟨ho, fun y hy => (hall y hy).2.en (hall y hy).1 hm, fun y hy => ?_, ?_, fun y hy => ?_, fun y hy => ?_⟩
 ·rcases hA with rfl | rfl
  ·exact (hall y hy).2
  ·exact farR_new (hall y hy).1 (fun k ⟨a, ha, hk⟩ => by cases ha; simp at hk; omega)
 ·rcases hA with rfl | rfl
  ·exact h.new
  ·intro a ha; cases ha; exact h0
 ·rcases List.mem_append.1 hy with hy | hy
  ·exact h.news y hy
  ·simp at hy; subst hy; exact ⟨fun a ha => Nat.le_trans hw1 (hxf.1 a ha), fun a ha => Nat.le_trans hw1 (hxf.2 a ha)⟩
 ·rcases List.mem_append.1 hy with hy | hy
  ·exact h.ok y hy
  ·simp at hy; subst hy; exact hok
def Lay (W W' : World) : Prop := ∃ q os, W' = Sort.grow (W.drewN q) os
theorem Lay.refl (W : World) : Lay W W := ⟨0, #[], by rw [Sort.grow_empty]; rfl⟩
theorem Lay.alloc {W W' : World} (h : Lay W W') (o : Obj) : Lay W (W'.alloc o) := by
 obtain ⟨q, os, rfl⟩ := h
 exact ⟨q, os.push o, by simp [Sort.grow, World.alloc]⟩
theorem Lay.drew {W W' : World} (h : Lay W W') : Lay W W'.drew := by
 obtain ⟨q, os, rfl⟩ := h
 exact ⟨q + 1, os, rfl⟩
theorem Lay.trans {W W' W'' : World} (h : Lay W W') (k : Lay W' W'') : Lay W W'' := by
 obtain ⟨q, os, rfl⟩ := h
 obtain ⟨q', os', rfl⟩ := k
 refine ⟨q + q', os ++ os', ?_⟩
 simp [Sort.grow, World.drewN, Array.append_assoc, Nat.add_assoc]
theorem Lay.mod {W W' : World} (h : Lay W W') : Mod none_ W W' := by
 obtain ⟨q, os, rfl⟩ := h
 exact ⟨rfl, rfl, rfl, by simp [Sort.grow, World.drewN], fun i hi _ => by show (W.heap ++ os)[i]? = _; rw [Array.getElem?_append_left hi]⟩
set_option maxRecDepth 100000
theorem compare_lay (w : World) (a b : Is) : Calls Tryz.prog 75 #[.agg #[.int .i64 a.r, .int .i64 a.n], .agg #[.int .i64 b.r, .int .i64 b.n]] w fun e w' => e = .returned (.int .i64 (cmpIs a b)) ∧ Lay w w' := by
 obtain ⟨ar, an⟩ := a
 obtain ⟨br, bn⟩ := b
 dsimp only
 have kC := zH (fun W a b => cmpI_ok W a b)
 obtain ⟨z, hz⟩ : ∃ z, cmpIs ⟨ar, an⟩ ⟨br, bn⟩ = z := ⟨_, rfl⟩
 rw [hz]
 have kO := zH (fun W b h => show Calls Tryz.prog 60 #[.slice (some ⟨b, 0, none⟩) 2 2] W (fun e w' => e = .returned (.int .i64 z) ∧ W = w') from by
  rw [← hz]; exact or2_ok W b (cmpI ar br) (cmpI an bn) h)
 clear hz
 go_enter Tryz.func75, Tryz.ntmps75
 go_wp2_with fail
 go_region_held3 (fun W => W.cell? ⟨w.heap.size, 0, none⟩ = some (.int .i64 ar) ∧ W.cell? ⟨w.heap.size, 1, none⟩ = some (.int .i64 an) ∧ W.cell? ⟨w.heap.size + 1, 0, none⟩ = some (.int .i64 br) ∧ W.cell? ⟨w.heap.size + 1, 1, none⟩ = some (.int .i64 bn)) (go_keep)
  (first | (go_at_call 61; with_reducible refine (kC.out _ _ _).mono ?_; rintro e w1 ⟨rfl, rfl⟩) | (go_at_call 60; refine (kO.out _ _ (by show RdI _ _ _ _; exact rdn _ _ 1 2 _ _ (0, 0) (by simp) rfl)).mono ?_; rintro e w1 ⟨rfl, rfl⟩))
 go_wp2_with fail
 go_ret
 exact ⟨rfl, ((((Lay.refl w).alloc _).alloc _).alloc _).drew⟩
theorem ahead_lay (w : World) (a b : Is) : Calls Tryz.prog 96 #[.agg #[.int .i64 a.r, .int .i64 a.n], .agg #[.int .i64 b.r, .int .i64 b.n]] w fun e w' => e = .returned (.bool (isLt a b)) ∧ Lay w w' := by
 have kC := zH (fun W => compare_lay W a b)
 have hz := cmpIs_lt a b
 generalize cmpIs a b = z at *
 replace hz := zH hz
 go_enter Tryz.func96, Tryz.ntmps96
 go_wp2_with fail
 with_reducible refine (kC.out _).mono ?_
 rintro e w1 ⟨rfl, hm⟩
 dsimp only
 have hm1 := (((Lay.refl w).alloc _).alloc _).trans hm
 replace hm := zH hm
 replace hm1 := zH hm1
 go_wp2_with fail
 go_ret
 exact ⟨by rw [← hz.out]; rfl, hm1.out⟩
def cfR (x y : Rs) : Int := if isLt x.r.i y.r.i then -1 else if x.r.i = y.r.i then 0 else 1
theorem lastCmp_ok (w : World) (x y : Rs) : Calls Tryz.prog 95 #[.agg #[.int .i64 x.r.i.r, .int .i64 x.r.i.n, .int .i64 x.r.bal, .int .i64 x.r.st, .int .i64 x.r.by_, .int .i64 x.r.e.o.c, .int .i64 x.r.e.o.s, .int .i64 x.r.e.o.k, .string (txt x.r.e.o.acct), .string (txt x.r.e.o.peer), .int .i64 x.r.e.o.sum, .slice x.L.a x.L.n x.L.c, .int .i64 x.r.e.o.per, .int .i64 x.r.e.o.hold, .string (txt x.r.e.o.note), .bool x.r.e.none, .slice x.D.a x.D.n x.D.c], .agg #[.int .i64 y.r.i.r, .int .i64 y.r.i.n, .int .i64 y.r.bal, .int .i64 y.r.st, .int .i64 y.r.by_, .int .i64 y.r.e.o.c, .int .i64 y.r.e.o.s, .int .i64 y.r.e.o.k, .string (txt y.r.e.o.acct), .string (txt y.r.e.o.peer), .int .i64 y.r.e.o.sum, .slice y.L.a y.L.n y.L.c, .int .i64 y.r.e.o.per, .int .i64 y.r.e.o.hold, .string (txt y.r.e.o.note), .bool y.r.e.none, .slice y.D.a y.D.n y.D.c]] w fun e w' => e = .returned (.int .i64 (cfR x y)) ∧ Lay w w' := by
 have kA := zH (fun W => ahead_lay W x.r.i y.r.i)
 have hb1 := zH ((Blk.new w 57 #[.int .i64 x.r.i.r, .int .i64 x.r.i.n, .int .i64 x.r.bal, .int .i64 x.r.st, .int .i64 x.r.by_, .int .i64 x.r.e.o.c, .int .i64 x.r.e.o.s, .int .i64 x.r.e.o.k, .string (txt x.r.e.o.acct), .string (txt x.r.e.o.peer), .int .i64 x.r.e.o.sum, .slice x.L.a x.L.n x.L.c, .int .i64 x.r.e.o.per, .int .i64 x.r.e.o.hold, .string (txt x.r.e.o.note), .bool x.r.e.none, .slice x.D.a x.D.n x.D.c]).alloc (.cells #[.int .i64 y.r.i.r, .int .i64 y.r.i.n, .int .i64 y.r.bal, .int .i64 y.r.st, .int .i64 y.r.by_, .int .i64 y.r.e.o.c, .int .i64 y.r.e.o.s, .int .i64 y.r.e.o.k, .string (txt y.r.e.o.acct), .string (txt y.r.e.o.peer), .int .i64 y.r.e.o.sum, .slice y.L.a y.L.n y.L.c, .int .i64 y.r.e.o.per, .int .i64 y.r.e.o.hold, .string (txt y.r.e.o.note), .bool y.r.e.none, .slice y.D.a y.D.n y.D.c] 57))
 have hb2 := zH (Blk.new (w.alloc (.cells #[.int .i64 x.r.i.r, .int .i64 x.r.i.n, .int .i64 x.r.bal, .int .i64 x.r.st, .int .i64 x.r.by_, .int .i64 x.r.e.o.c, .int .i64 x.r.e.o.s, .int .i64 x.r.e.o.k, .string (txt x.r.e.o.acct), .string (txt x.r.e.o.peer), .int .i64 x.r.e.o.sum, .slice x.L.a x.L.n x.L.c, .int .i64 x.r.e.o.per, .int .i64 x.r.e.o.hold, .string (txt x.r.e.o.note), .bool x.r.e.none, .slice x.D.a x.D.n x.D.c] 57)) 57 #[.int .i64 y.r.i.r, .int .i64 y.r.i.n, .int .i64 y.r.bal, .int .i64 y.r.st, .int .i64 y.r.by_, .int .i64 y.r.e.o.c, .int .i64 y.r.e.o.s, .int .i64 y.r.e.o.k, .string (txt y.r.e.o.acct), .string (txt y.r.e.o.peer), .int .i64 y.r.e.o.sum, .slice y.L.a y.L.n y.L.c, .int .i64 y.r.e.o.per, .int .i64 y.r.e.o.hold, .string (txt y.r.e.o.note), .bool y.r.e.none, .slice y.D.a y.D.n y.D.c])
 have hl0 := zH (((Lay.refl w).alloc (.cells #[.int .i64 x.r.i.r, .int .i64 x.r.i.n, .int .i64 x.r.bal, .int .i64 x.r.st, .int .i64 x.r.by_, .int .i64 x.r.e.o.c, .int .i64 x.r.e.o.s, .int .i64 x.r.e.o.k, .string (txt x.r.e.o.acct), .string (txt x.r.e.o.peer), .int .i64 x.r.e.o.sum, .slice x.L.a x.L.n x.L.c, .int .i64 x.r.e.o.per, .int .i64 x.r.e.o.hold, .string (txt x.r.e.o.note), .bool x.r.e.none, .slice x.D.a x.D.n x.D.c] 57)).alloc (.cells #[.int .i64 y.r.i.r, .int .i64 y.r.i.n, .int .i64 y.r.bal, .int .i64 y.r.st, .int .i64 y.r.by_, .int .i64 y.r.e.o.c, .int .i64 y.r.e.o.s, .int .i64 y.r.e.o.k, .string (txt y.r.e.o.acct), .string (txt y.r.e.o.peer), .int .i64 y.r.e.o.sum, .slice y.L.a y.L.n y.L.c, .int .i64 y.r.e.o.per, .int .i64 y.r.e.o.hold, .string (txt y.r.e.o.note), .bool y.r.e.none, .slice y.D.a y.D.n y.D.c] 57))
 have hei := fun W => eql_is W x.r.i y.r.i
 unfold isV at hei
 have hcf : cfR x y = if isLt x.r.i y.r.i then -1 else if x.r.i = y.r.i then 0 else 1 := rfl
 obtain ⟨z, hz⟩ : ∃ z, z = cfR x y := ⟨_, rfl⟩
 rw [← hz] at hcf ⊢
 clear hz
 replace hcf := zH hcf
 go_enter Tryz.func95, Tryz.ntmps95
 go_wp2_with fail
 with_reducible refine (kA.out _).mono ?_
 rintro e w1 ⟨rfl, hl1⟩
 dsimp only
 have hL1 := zH (hl0.out.trans hl1)
 have hb1' := zH (hb1.out.mod hl1.mod (fun h => h))
 have hb2' := zH (hb2.out.mod hl1.mod (fun h => h))
 have hsz : (w.alloc (.cells #[.int .i64 x.r.i.r, .int .i64 x.r.i.n, .int .i64 x.r.bal, .int .i64 x.r.st, .int .i64 x.r.by_, .int .i64 x.r.e.o.c, .int .i64 x.r.e.o.s, .int .i64 x.r.e.o.k, .string (txt x.r.e.o.acct), .string (txt x.r.e.o.peer), .int .i64 x.r.e.o.sum, .slice x.L.a x.L.n x.L.c, .int .i64 x.r.e.o.per, .int .i64 x.r.e.o.hold, .string (txt x.r.e.o.note), .bool x.r.e.none, .slice x.D.a x.D.n x.D.c] 57)).heap.size = w.heap.size + 1 := by simp
 rw [hsz] at hb2'
 clear hl1 hsz hb1 hb2 hl0 kA
 cases hlt : isLt x.r.i y.r.i with
 | true =>
  rw [hlt] at hcf
  have hz : z = -1 := hcf.out
  clear hcf
  replace hz := zH hz
  replace hlt := zH hlt
  go_wp2_with fail
  go_ret
  exact ⟨by rw [hz.out]; rfl, hL1.out⟩
 | false =>
  rw [hlt] at hcf
  have hcf' : z = if x.r.i = y.r.i then 0 else 1 := hcf.out
  clear hcf
  by_cases he : x.r.i = y.r.i
  ·rw [if_pos he] at hcf'
   have hde : decide (x.r.i = y.r.i) = true := decide_eq_true he
   replace hcf' := zH hcf'
   replace he := zH he
   replace hlt := zH hlt
   go_wp2_with (first
    | (refine wpList_load_blk rfl 27 (.tmp 12) rfl w.heap.size 0 rfl hb1'.out [.int .i64 x.r.i.r, .int .i64 x.r.i.n] rfl Tryz.underlying27 rfl inst_size ?_)
    | (refine wpList_load_blk rfl 27 (.tmp 14) rfl (w.heap.size + 1) 0 rfl hb2'.out [.int .i64 y.r.i.r, .int .i64 y.r.i.n] rfl Tryz.underlying27 rfl inst_size ?_))
   go_ret
   exact ⟨by rw [hcf'.out]; rfl, hL1.out⟩
  ·rw [if_neg he] at hcf'
   have hde : decide (x.r.i = y.r.i) = false := decide_eq_false he
   replace hcf' := zH hcf'
   replace he := zH he
   replace hlt := zH hlt
   go_wp2_with (first
    | (refine wpList_load_blk rfl 27 (.tmp 12) rfl w.heap.size 0 rfl hb1'.out [.int .i64 x.r.i.r, .int .i64 x.r.i.n] rfl Tryz.underlying27 rfl inst_size ?_)
    | (refine wpList_load_blk rfl 27 (.tmp 14) rfl (w.heap.size + 1) 0 rfl hb2'.out [.int .i64 y.r.i.r, .int .i64 y.r.i.n] rfl Tryz.underlying27 rfl inst_size ?_))
   go_ret
   exact ⟨by rw [hcf'.out]; rfl, hL1.out⟩
end Go.Proofs.YtfkfiokkjjnhiaaGreat
namespace Go.Proofs
open Go.Shelf
def Tryz.sortf28_ren : Go.Shelf.Ren := ⟨fun | 6 => 28 | 15 => 59 | 14 => 58 | 28 => 105 | 29 => 106 | 20 => 97 | 21 => 98 | 22 => 99 | 23 => 100 | 24 => 101 | 25 => 102 | 26 => 103 | 27 => 104 | 46 => 168 | 47 => 169 | 48 => 170 | 49 => 171 | 50 => 172 | 57 => 213 | n => n, fun | 22 => 22 | 24 => 27 | 25 => 78 | 3 => 3 | 39 => 34 | 0 => 0 | 53 => 192 | 55 => 194 | 4 => 4 | 46 => 185 | 45 => 184 | 50 => 189 | 5 => 5 | 9 => 9 | 66 => 242 | 70 => 246 | 76 => 287 | 77 => 288 | n => n, fun | n => n⟩
theorem Tryz.sortf28 : Go.Proofs.SlLaysF0.n6 Tryz.prog Tryz.sortf28_ren := {
 mixed := by kernel_rfl
 f6 := ⟨Tryz.f28.name, by decide, Tryz.func28.trans (congrArg some (by kernel_rfl))⟩
 f14 := ⟨Tryz.f58.name, by decide, Tryz.func58.trans (congrArg some (by kernel_rfl))⟩
 f15 := Tryz.func59.trans (congrArg some (by kernel_rfl))
 f20 := ⟨Tryz.f97.name, by decide, Tryz.func97.trans (congrArg some (by kernel_rfl))⟩
 f21 := ⟨Tryz.f98.name, by decide, Tryz.func98.trans (congrArg some (by kernel_rfl))⟩
 f22 := ⟨Tryz.f99.name, by decide, Tryz.func99.trans (congrArg some (by kernel_rfl))⟩
 f23 := ⟨Tryz.f100.name, by decide, Tryz.func100.trans (congrArg some (by kernel_rfl))⟩
 f24 := ⟨Tryz.f101.name, by decide, Tryz.func101.trans (congrArg some (by kernel_rfl))⟩
 f25 := ⟨Tryz.f102.name, by decide, Tryz.func102.trans (congrArg some (by kernel_rfl))⟩
 f26 := ⟨Tryz.f103.name, by decide, Tryz.func103.trans (congrArg some (by kernel_rfl))⟩
 f27 := ⟨Tryz.f104.name, by decide, Tryz.func104.trans (congrArg some (by kernel_rfl))⟩
 f28 := Tryz.func105.trans (congrArg some (by kernel_rfl))
 f29 := Tryz.func106.trans (congrArg some (by kernel_rfl))
 f46 := ⟨Tryz.f168.name, by decide, Tryz.func168.trans (congrArg some (by kernel_rfl))⟩
 f47 := Tryz.func169.trans (congrArg some (by kernel_rfl))
 f48 := Tryz.func170.trans (congrArg some (by kernel_rfl))
 f49 := ⟨Tryz.f171.name, by decide, Tryz.func171.trans (congrArg some (by kernel_rfl))⟩
 f50 := ⟨Tryz.f172.name, by decide, Tryz.func172.trans (congrArg some (by kernel_rfl))⟩
 f57 := ⟨Tryz.f213.name, by decide, Tryz.func213.trans (congrArg some (by kernel_rfl))⟩
 t0 := Tryz.underlying0
 a0 := Tryz.isAgg0
 z0 := Tryz.sizeOf0
 v0 := Tryz.zeroValue0
 t3 := Tryz.underlying3
 a3 := Tryz.isAgg3
 z3 := Tryz.sizeOf3
 v3 := Tryz.zeroValue3
 t4 := Tryz.underlying4
 a4 := Tryz.isAgg4
 z4 := Tryz.sizeOf4
 v4 := Tryz.zeroValue4
 t5 := Tryz.underlying5
 a5 := Tryz.isAgg5
 z5 := Tryz.sizeOf5
 v5 := Tryz.zeroValue5
 t9 := Tryz.underlying9
 a9 := Tryz.isAgg9
 z9 := Tryz.sizeOf9
 v9 := Tryz.zeroValue9
 t22 := Tryz.underlying22
 a22 := Tryz.isAgg22
 z22 := Tryz.sizeOf22
 v22 := Tryz.zeroValue22
 t25 := Tryz.underlying78
 a25 := Tryz.isAgg78
 z25 := Tryz.sizeOf78
 v25 := Tryz.zeroValue78
 t39 := Tryz.underlying34
 a39 := Tryz.isAgg34
 z39 := Tryz.sizeOf34
 v39 := Tryz.zeroValue34
 t45 := Tryz.underlying184
 a45 := Tryz.isAgg184
 z45 := Tryz.sizeOf184
 v45 := Tryz.zeroValue184
 t46 := Tryz.underlying185
 a46 := Tryz.isAgg185
 z46 := Tryz.sizeOf185
 v46 := Tryz.zeroValue185
 t50 := Tryz.underlying189
 a50 := Tryz.isAgg189
 z50 := Tryz.sizeOf189
 v50 := Tryz.zeroValue189
 t53 := Tryz.underlying192
 a53 := Tryz.isAgg192
 z53 := Tryz.sizeOf192
 v53 := Tryz.zeroValue192
 t55 := Tryz.underlying194
 a55 := Tryz.isAgg194
 z55 := Tryz.sizeOf194
 v55 := Tryz.zeroValue194
 t66 := Tryz.underlying242
 a66 := Tryz.isAgg242
 z66 := Tryz.sizeOf242
 v66 := Tryz.zeroValue242
 t70 := Tryz.underlying246
 a70 := Tryz.isAgg246
 z70 := Tryz.sizeOf246
 v70 := Tryz.zeroValue246
 t76 := Tryz.underlying287
 a76 := Tryz.isAgg287
 z76 := Tryz.sizeOf287
 v76 := Tryz.zeroValue287
 t77 := Tryz.underlying288
 a77 := Tryz.isAgg288
 z77 := Tryz.sizeOf288
 v77 := Tryz.zeroValue288 }
def Tryz.sortf166_ren : Go.Shelf.Ren := ⟨fun | 6 => 166 | 15 => 59 | 14 => 212 | 28 => 105 | 29 => 106 | 20 => 238 | 21 => 239 | 22 => 240 | 23 => 241 | 24 => 242 | 25 => 243 | 26 => 244 | 27 => 245 | 46 => 272 | 47 => 169 | 48 => 170 | 49 => 273 | 50 => 274 | 57 => 291 | n => n, fun | 22 => 35 | 24 => 57 | 25 => 182 | 3 => 3 | 39 => 34 | 0 => 0 | 53 => 192 | 55 => 194 | 4 => 4 | 46 => 185 | 45 => 184 | 50 => 189 | 5 => 5 | 9 => 9 | 66 => 242 | 70 => 246 | 76 => 287 | 77 => 288 | n => n, fun | n => n⟩
theorem Tryz.sortf166 : Go.Proofs.SlLaysF0.n6 Tryz.prog Tryz.sortf166_ren := {
 mixed := by kernel_rfl
 f6 := ⟨Tryz.f166.name, by decide, Tryz.func166.trans (congrArg some (by kernel_rfl))⟩
 f14 := ⟨Tryz.f212.name, by decide, Tryz.func212.trans (congrArg some (by kernel_rfl))⟩
 f15 := Tryz.func59.trans (congrArg some (by kernel_rfl))
 f20 := ⟨Tryz.f238.name, by decide, Tryz.func238.trans (congrArg some (by kernel_rfl))⟩
 f21 := ⟨Tryz.f239.name, by decide, Tryz.func239.trans (congrArg some (by kernel_rfl))⟩
 f22 := ⟨Tryz.f240.name, by decide, Tryz.func240.trans (congrArg some (by kernel_rfl))⟩
 f23 := ⟨Tryz.f241.name, by decide, Tryz.func241.trans (congrArg some (by kernel_rfl))⟩
 f24 := ⟨Tryz.f242.name, by decide, Tryz.func242.trans (congrArg some (by kernel_rfl))⟩
 f25 := ⟨Tryz.f243.name, by decide, Tryz.func243.trans (congrArg some (by kernel_rfl))⟩
 f26 := ⟨Tryz.f244.name, by decide, Tryz.func244.trans (congrArg some (by kernel_rfl))⟩
 f27 := ⟨Tryz.f245.name, by decide, Tryz.func245.trans (congrArg some (by kernel_rfl))⟩
 f28 := Tryz.func105.trans (congrArg some (by kernel_rfl))
 f29 := Tryz.func106.trans (congrArg some (by kernel_rfl))
 f46 := ⟨Tryz.f272.name, by decide, Tryz.func272.trans (congrArg some (by kernel_rfl))⟩
 f47 := Tryz.func169.trans (congrArg some (by kernel_rfl))
 f48 := Tryz.func170.trans (congrArg some (by kernel_rfl))
 f49 := ⟨Tryz.f273.name, by decide, Tryz.func273.trans (congrArg some (by kernel_rfl))⟩
 f50 := ⟨Tryz.f274.name, by decide, Tryz.func274.trans (congrArg some (by kernel_rfl))⟩
 f57 := ⟨Tryz.f291.name, by decide, Tryz.func291.trans (congrArg some (by kernel_rfl))⟩
 t0 := Tryz.underlying0
 a0 := Tryz.isAgg0
 z0 := Tryz.sizeOf0
 v0 := Tryz.zeroValue0
 t3 := Tryz.underlying3
 a3 := Tryz.isAgg3
 z3 := Tryz.sizeOf3
 v3 := Tryz.zeroValue3
 t4 := Tryz.underlying4
 a4 := Tryz.isAgg4
 z4 := Tryz.sizeOf4
 v4 := Tryz.zeroValue4
 t5 := Tryz.underlying5
 a5 := Tryz.isAgg5
 z5 := Tryz.sizeOf5
 v5 := Tryz.zeroValue5
 t9 := Tryz.underlying9
 a9 := Tryz.isAgg9
 z9 := Tryz.sizeOf9
 v9 := Tryz.zeroValue9
 t22 := Tryz.underlying35
 a22 := Tryz.isAgg35
 z22 := Tryz.sizeOf35
 v22 := Tryz.zeroValue35
 t25 := Tryz.underlying182
 a25 := Tryz.isAgg182
 z25 := Tryz.sizeOf182
 v25 := Tryz.zeroValue182
 t39 := Tryz.underlying34
 a39 := Tryz.isAgg34
 z39 := Tryz.sizeOf34
 v39 := Tryz.zeroValue34
 t45 := Tryz.underlying184
 a45 := Tryz.isAgg184
 z45 := Tryz.sizeOf184
 v45 := Tryz.zeroValue184
 t46 := Tryz.underlying185
 a46 := Tryz.isAgg185
 z46 := Tryz.sizeOf185
 v46 := Tryz.zeroValue185
 t50 := Tryz.underlying189
 a50 := Tryz.isAgg189
 z50 := Tryz.sizeOf189
 v50 := Tryz.zeroValue189
 t53 := Tryz.underlying192
 a53 := Tryz.isAgg192
 z53 := Tryz.sizeOf192
 v53 := Tryz.zeroValue192
 t55 := Tryz.underlying194
 a55 := Tryz.isAgg194
 z55 := Tryz.sizeOf194
 v55 := Tryz.zeroValue194
 t66 := Tryz.underlying242
 a66 := Tryz.isAgg242
 z66 := Tryz.sizeOf242
 v66 := Tryz.zeroValue242
 t70 := Tryz.underlying246
 a70 := Tryz.isAgg246
 z70 := Tryz.sizeOf246
 v70 := Tryz.zeroValue246
 t76 := Tryz.underlying287
 a76 := Tryz.isAgg287
 z76 := Tryz.sizeOf287
 v76 := Tryz.zeroValue287
 t77 := Tryz.underlying288
 a77 := Tryz.isAgg288
 z77 := Tryz.sizeOf288
 v77 := Tryz.zeroValue288 }
end Go.Proofs
namespace Go.Proofs.YtfkfiokkjjnhiaaGreat
open Go.RowKit
open Go.Shelf Go.Sort Go.Lib
instance : Inhabited Is := ⟨⟨0, 0⟩⟩
def isC (x : Is) : List Value := [.int .i64 x.r, .int .i64 x.n]
theorem isC_len (x : Is) : (isC x).length = 2 := rfl
theorem iss_isC (l : List Is) : iss l = l.flatMap isC := rfl
theorem OwP.len {w : World} {A : Option Addr} {n c : Nat} {xs : List Is} (h : OwP w A n c xs) : xs.length = n := by have := h.1; rw [iss_length] at this; omega
theorem ltI_iff (x y : Is) : ltOf cmpIs x y = isLt x y := cmpIs_lt x y
theorem swoI : SWO (ltOf cmpIs) where
 irrefl x := by rw [ltI_iff]; unfold isLt; simp
 trans x y z h1 h2 := by
  rw [ltI_iff] at *
  unfold isLt at *
  simp only [decide_eq_true_eq] at *
  omega
 ntrans x y z h1 h2 := by
  rw [ltI_iff] at *
  unfold isLt at *
  simp only [decide_eq_false_iff_not] at *
  omega
theorem flatK_iss (d : List Is) : (flatK isC 2 d.toArray).toList = iss d := by
 apply List.ext_getElem?
 intro t
 by_cases ht : t < d.length * 2
 ·have h1 : t / 2 < d.length := by omega
  have h2 : t % 2 < 2 := by omega
  have e1 : (flatK isC 2 d.toArray).toList[t]? = some ((flatK isC 2 d.toArray)[t]!) := by
   rw [Array.getElem?_toList, getElem!_pos _ t (by simpa using ht), Array.getElem?_eq_getElem (by simpa using ht)]
  rw [e1, get_flatK isC 2 d.toArray t (by simpa using ht)]
  have e2 := flat_get isC 2 (fun _ => rfl) d (t / 2) d[t / 2] (List.getElem?_eq_getElem h1) (t % 2) h2
  have e3 : t / 2 * 2 + t % 2 = t := by omega
  rw [e3] at e2
  rw [iss_isC]
  have e4 : d.toArray[t / 2]! = d[t / 2] := by rw [getElem!_pos _ _ (by simpa using h1)]; simp
  rw [e2, e4, getElem!_pos (isC d[t / 2]) (t % 2) (by rw [isC_len]; exact h2), List.getElem?_eq_getElem (by rw [isC_len]; exact h2)]
 ·rw [List.getElem?_eq_none (by simp; omega), List.getElem?_eq_none (by rw [iss_length]; omega)]
theorem heap_sortI {W : World} {g n : Nat} {e : TypeId} {cur : Array Value} (os : Array Obj) (d : Array Is) (hb : Blk W g e cur) : Blk (sortWorldK isC 2 W g 0 n d os) g e (putCells id 0 (flatK isC 2 d) cur) := by
 have hg : g < W.heap.size := hb.lt
 unfold Blk sortWorldK putRowK putRow mapBlock
 show (_ ++ os)[g]? = _
 rw [Array.getElem?_append_left (by simp [Sort.ahead]; exact hg)]
 show (W.heap.modify g _)[g]? = _
 rw [Array.getElem?_eq_getElem (by rw [Array.size_modify]; exact hg), Array.getElem_modify_self]
 have := Array.getElem?_eq_some_iff.1 hb
 rw [this.2]
 rfl
theorem mod_sortI {W : World} {g n : Nat} (os : Array Obj) (d : Array Is) : Mod (only g) W (sortWorldK isC 2 W g 0 n d os) := by
 unfold sortWorldK putRowK putRow mapBlock
 refine ⟨rfl, rfl, rfl, by simp [Sort.grow, Sort.ahead], fun k hk hne => ?_⟩
 show (_ ++ os)[k]? = _
 rw [Array.getElem?_append_left (by simp [Sort.ahead]; exact hk)]
 show (W.heap.modify g _)[k]? = _
 have : g ≠ k := fun e => hne (by rw [e]; exact rfl)
 simp [Array.getElem?_modify, this]
theorem take_putCellsI (cur F : Array Value) (h : F.size ≤ cur.size) : (putCells id 0 F cur).toList.take F.size = F.toList := by
 apply List.ext_getElem?
 intro j
 by_cases hj : j < F.size
 ·rw [List.getElem?_take_of_lt hj, Array.getElem?_toList]
  simp [putCells, hj, show j < cur.size by omega]
 ·rw [List.getElem?_take_eq_none (by omega), List.getElem?_eq_none (by simp; omega)]
set_option maxRecDepth 100000
theorem sortI_ok (f : FuncId) (hent : ∀ args w, (callFunc f args).run Tryz.prog w = .ok (.enter f args) w) (hc : ∀ W x y, Calls Tryz.prog f #[.agg #[.int .i64 x.r, .int .i64 x.n], .agg #[.int .i64 y.r, .int .i64 y.n]] W fun e w' => e = .returned (.int .i64 (cmpIs x y)) ∧ Lay W w') (W : World) (g n cap : Nat) (xs : List Is) (how : OwP W (some ⟨g, 0, none⟩) n cap xs) (hn : n ≤ 1000000) :
  Calls Tryz.prog 28 #[.slice (some ⟨g, 0, none⟩) n cap, .func (.func f) #[] #[]] W fun e w' =>
   e = .returned (.tuple #[]) ∧ ∃ ys : List Is, ys.Perm xs ∧ (ys.Pairwise fun a b => isLt b a = false) ∧ OwP w' (some ⟨g, 0, none⟩) n cap ys ∧ Mod (only g) W w' := by
 have hl := how.len
 obtain ⟨h1, h2, h3, h4⟩ := how
 rcases h4 with ⟨h4, _⟩ | ⟨g', cur, h4, hb, h5, h6⟩
 ·cases h4
 ·cases h4
  have hH : HoldsK isC 2 W g 0 xs.toArray := by
   intro j hj
   have hj' : j < xs.length * 2 := by simpa using hj
   refine ⟨?_, hb.frozen _⟩
   rw [Nat.zero_add, hb.cell]
   have e1 := flatK_iss xs
   have e2 : cur[j]? = (iss xs)[j]? := by
    rw [← h6, List.getElem?_take, if_pos (by rw [← hl]; exact hj'), Array.getElem?_toList]
   rw [e2, ← e1, Array.getElem?_toList, Array.getElem?_eq_getElem hj, getElem!_pos _ j hj]
   rfl
  have hcmp : CmpLays Tryz.prog f #[] isC 2 cmpIs g 0 xs.toArray.size W := fun m os dk hs x y => hc _ x y
  have hk := AnyQ.slices_SortFunc (P := Tryz.prog) Tryz.sortf28 2 (fun w => by kernel_rfl) (fun w => by kernel_rfl) isC (fun _ => rfl) (fun x v hv => iss_one [x] v (by rw [iss_isC]; simpa using hv)) cmpIs swoI f #[] g 0 cap xs.toArray W hent hcmp hH hb.lt (by have := h3; simp only [maxLen] at this; simp; omega)
  have hsz : xs.toArray.size = n := by simpa using hl
  rw [hsz] at hk
  refine Calls.mono (show Calls Tryz.prog 28 #[.slice (some ⟨g, 0, none⟩) n cap, .func (.func f) #[] #[]] W _ from hk) ?_
  rintro e w' ⟨rfl, d', n', os, hp, hs, rfl⟩
  refine ⟨rfl, d'.toList, ?_, ?_, ?_, mod_sortI os d'⟩
  ·obtain ⟨p1, p2, p3⟩ := hp
   have a1 : d'.extract 0 n = d' := by rw [← hsz, ← p1]; simp
   have a2 : xs.toArray.extract 0 n = xs.toArray := by rw [← hsz]; simp
   rw [a1, a2] at p3
   simpa using p3
  ·obtain ⟨p1, _, _⟩ := hp
   rw [List.pairwise_iff_getElem]
   intro i j hi hj hij
   have hj' : j < d'.size := by simpa using hj
   have hi' : i < d'.size := by simpa using hi
   have := hs i j (Nat.zero_le _) hij (by rw [← hsz, ← p1]; exact hj')
   rw [ltI_iff, getElem!_pos d' j hj', getElem!_pos d' i hi'] at this
   simpa using this
  ·obtain ⟨p1, _, _⟩ := hp
   have hdl : d'.toList.length = n := by rw [Array.length_toList, p1, hsz]
   have e1 : (flatK isC 2 d').toList = iss d'.toList := by have := flatK_iss d'.toList; simpa using this
   have hFs : (flatK isC 2 d').size = n * 2 := by rw [size_flatK, p1, hsz]
   refine ⟨by rw [iss_length, hdl], h2, h3, .inr ⟨g, _, rfl, heap_sortI os d' hb, by simp [putCells]; exact h5, ?_⟩⟩
   rw [← hFs, take_putCellsI _ _ (by rw [hFs]; have := Nat.mul_le_mul_right 2 h2; omega), e1]
end Go.Proofs.YtfkfiokkjjnhiaaGreat
