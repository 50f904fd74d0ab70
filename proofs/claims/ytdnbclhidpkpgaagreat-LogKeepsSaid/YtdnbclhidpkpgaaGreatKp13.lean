import Derived.Test.YtdnbclhidpkpgaaGreatKp12
import Derived.Shelf.SlIter.Collect
import Derived.Test.YtdnbclhidpkpgaaGreatKp1
import Derived.Laws.CopyOwn
import Derived.Deep.OwnRows
import Derived.Test.YtdnbclhidpkpgaaGreatRows
import Derived.Lib.ConvBytes
import Derived.Test.YtdnbclhidpkpgaaGreatKp10
import Derived.Deep.DeepCutAuto
/-
  slices.Collect of records that an iterator gives; maps.Values of a map of records by Inst. No condition.
-/
namespace Go.Proofs.YtdnbclhidpkpgaaGreat
set_option linter.unusedVariables false
set_option linter.unusedSimpArgs false
open Go.RowKit Go.Sort Go.Shelf
def rsV (x : Rs) : Value := .agg #[.int .i64 x.r.i.r, .int .i64 x.r.i.n, .int .i64 x.r.bal, .int .i64 x.r.st, .int .i64 x.r.by_, .int .i64 x.r.e.o.c, .int .i64 x.r.e.o.s, .int .i64 x.r.e.o.k, .string (txt x.r.e.o.acct), .string (txt x.r.e.o.peer), .int .i64 x.r.e.o.sum, .slice x.L.a x.L.n x.L.c, .int .i64 x.r.e.o.per, .int .i64 x.r.e.o.hold, .string (txt x.r.e.o.note), .bool x.r.e.none, .slice x.D.a x.D.n x.D.c]
def mapM (M : List Rs) : List InstV := M.map fun x => (x.r.i, rsV x)
theorem grown_of_mod {w w' : World} {g : Nat} (h : Mod (only g) w w') : w.grownBy w' (some g) := ⟨h.os, h.tape, h.output, h.size, fun k hk hne => h.block k hk (fun hh => hne (by have : k = g := hh; rw [this]))⟩
theorem keeps_of_mod {w w' : World} {g : Nat} {t : TypeId} {cs : Array Value} (h : Mod (only g) w w') (hb : Blk w g t cs) : KeepsWalks w w' :=
  KeepsWalks.of_grownBy (grown_of_mod h) (fun j o hj ho => by cases hj; rw [hb] at ho; cases ho; rfl)
theorem wpListIn_store_blk {F : Fence} {n : Nat} {P : Program} {ops : Array Oper} {rest : List Oper} {op : Oper} {a : Act} {w : World} {Q : Exit → Act → World → Prop} (hgd : op.guard = none) (ty : TypeId) (x y : Operand) (ho : op.op = .store ty x y)
    (g o : Nat) (cells : Array Value) (hx : a.eval x = .pointer (some ⟨g, o, none⟩)) (hy : a.eval y = .agg cells) {t : TypeId} {cs : Array Value} (hb : Blk w g t cs) (hn : o + cells.size ≤ cs.size)
    (hi : (P.info? ty).map (·.size) = some cells.size) (h1 : cells.toList.all (·.oneCell') = true) (cs' : Array Value) (hcs : cs.toList.take o ++ (cells.toList ++ cs.toList.drop (o + cells.size)) = cs'.toList)
    (h : ∀ w', Blk w' g t cs' → Mod (only g) w w' → wpListIn F n P ops Q rest (a.put op.dst undef) w') : wpListIn F n P ops Q (op :: rest) a w := by
  refine wpListIn_plain hgd fun K hK' => ?_
  have hrun := run_storeAt_mid (P := P) w g o ty cells (hb.there o _ hn) hi (by rw [← Array.all_toList]; exact h1)
  unfold Oper.wpIn
  refine ⟨?_, ?_⟩
  · simp [Oper.about, ho]
  · rw [Oper.semAt_plain F _ _ (by rw [ho]; intro c hc'; cases hc')]
    simp [execOp, ho, hx, hy, hrun, Result.andThen]
    exact hK' _ _ (h _ (by have e := setL_toList cells.toList cs o (by simpa using hn); rw [Array.length_toList, hcs, Array.toList_inj] at e; rw [← e]; exact Blk.setCells _ _ _ _ hb) (Mod.setCells _ _ _ _ (Mod.refl _ w) rfl))
theorem wpListIn_load_blk {F : Fence} {n : Nat} {P : Program} {ops : Array Oper} {rest : List Oper} {op : Oper} {a : Act} {w : World} {Q : Exit → Act → World → Prop} (hgd : op.guard = none) (ty : TypeId) (x : Operand) (ho : op.op = .load ty x)
    (g o : Nat) (hx : a.eval x = .pointer (some ⟨g, o, none⟩)) {t : TypeId} {cs : Array Value} (hb : Blk w g t cs) (vs : List Value) (hv : (cs.toList.drop o).take vs.length = vs) {d : TypeDesc} (hu : P.underlying ty = some d) (hd : d.isRow = true)
    (hi : (P.info? ty).map (·.size) = some vs.length) (h : wpListIn F n P ops Q rest (a.put op.dst (.agg vs.toArray)) w) : wpListIn F n P ops Q (op :: rest) a w := by
  refine wpListIn_plain hgd fun K hK' => ?_
  have hrun := run_loadAt_mid (P := P) w g o ty vs d (hb.range o vs hv) hu hd hi
  unfold Oper.wpIn
  refine ⟨?_, ?_⟩
  · simp [Oper.about, ho]
  · rw [Oper.semAt_plain F _ _ (by rw [ho]; intro c hc'; cases hc')]
    simp [execOp, ho, hx, hrun, Result.andThen]
    exact hK' _ _ h
/-! ### the iterator -/
theorem ItK.of_walks {w w' : World} {b r : Nat} {L R : List InstV} (h : ItK w b r L R) (hk : KeepsWalks w w') : ItK w' b r L R := by
  obtain ⟨n, D, left, cnt, h1, h2, h3⟩ := h
  exact ⟨n, D, left, cnt, h1.of_walks hk, h2, h3⟩
theorem ItK.iter_walk {w : World} {b r : Nat} {L R : List InstV} (h : ItK w b r L R) : ∃ o : Obj, w.heap[r]? = some o ∧ o.isWalk = true := by
  obtain ⟨n, D, left, cnt, h1, _⟩ := h
  exact h1.iter_walk
theorem grown_new {w w1 w' : World} (h1 : w.grownBy w1 none) {g : Nat} (hg : w.heap.size ≤ g) (h : Mod (only g) w1 w') : w.grownBy w' none :=
  ⟨h.os.trans h1.os, h.tape.trans h1.tape, h.output.trans h1.output, Nat.le_trans h1.size h.size, fun k hk _ => (h.block k (Nat.lt_of_lt_of_le hk h1.size) (fun hh => by have : k = g := hh; omega)).trans (h1.block k hk (by simp))⟩
theorem mapM_drop {M : List Rs} {x : Rs} (hn : (mapM M).Pairwise fun p q => p.1 ≠ q.1) (h : x ∈ M) : ∃ M', dropI x.r.i (mapM M) = mapM M' ∧ (x :: M').Perm M := by
  induction M with
  | nil => cases h
  | cons y M ih =>
    obtain ⟨h1, h2⟩ := List.pairwise_cons.1 hn
    by_cases he : y.r.i = x.r.i
    · have hxy : x = y := by
        rcases List.mem_cons.1 h with h | h
        · exact h
        · exact absurd he (h1 _ (List.mem_map.2 ⟨x, h, rfl⟩))
      subst hxy
      refine ⟨M, ?_, List.Perm.refl _⟩
      show dropI x.r.i ((x.r.i, rsV x) :: mapM M) = _
      unfold dropI
      rw [List.filter_cons_of_neg (by simp), List.filter_eq_self]
      intro q hq
      have := h1 q hq
      simpa using fun e => this e.symm
    · have hx : x ∈ M := by
        rcases List.mem_cons.1 h with h | h
        · subst h; exact absurd rfl he
        · exact h
      obtain ⟨M', e1, e2⟩ := ih h2 hx
      refine ⟨y :: M', ?_, (List.Perm.swap y x M').trans (e2.cons y)⟩
      show dropI x.r.i ((y.r.i, rsV y) :: mapM M) = _
      unfold dropI
      rw [List.filter_cons_of_pos (by simpa using he)]
      show _ :: dropI x.r.i (mapM M) = _
      rw [e1]; rfl
set_option maxRecDepth 100000 in
set_option maxHeartbeats 4000000 in
theorem values1_in (F : Fence) (n : Nat) (hF : F.fn 93) (hro : F.round = none) (hn : 1 ≤ n) (l Bm b : Nat) (M : List Rs) (J : List Rs → World → Prop)
    (hY : ∀ pre x W, J pre W → pre.length < M.length → x ∈ M → YieldAt F (n - 1) Tryz.prog l #[rsV x] W fun e W' => e = .returned (.bool true) ∧ J (pre ++ [x]) W' ∧ KeepsWalks W W')
    (W : World) (hJ : AbidesFrom W.heap.size J) (hm : W.cell? ⟨Bm, 0, none⟩ = some (.map (some b))) (hown : MapK W b (mapM M)) (h0 : J [] W) :
    CallsIn F n Tryz.prog 93 #[.func (.yield l) #[] #[], .pointer (some ⟨Bm, 0, none⟩)] W fun e W' => (∃ v, e = .returned v) ∧ ∃ ss : List Rs, ss.Perm M ∧ J ss W' := by
  obtain ⟨D, ho1, ho2⟩ := hown.tight
  refine callsIn_of_wp Tryz.func93 rfl hF ?_ hro
  simp only [Tryz.ntmps93, List.size_toArray, List.length_cons, List.length_nil, Nat.reduceAdd, Nat.reduceSub, Array.replicate_succ, Array.replicate_zero, List.push_toArray, List.append_toArray, List.nil_append, List.cons_append]
  have hK := Lib.hid (hY)
  replace hY := Lib.hid hY
  replace hJ := Lib.hid hJ
  replace h0 := Lib.hid h0
  replace ho2 := Lib.hid ho2
  replace hown := Lib.hid hown
  gi_wp2_with (first
    | (gi_at_range; refine wpListIn_range_own _ rfl _ 102 rfl 25 37 instKeyed Tryz.underlying102 VR b _ _ rfl ho1 ?_; intro w0 hrg0 hg0 hs0)
    | gi_in)
  go_frame
  have hIt0 : ItK w0 b W.heap.size (mapM M) (mapM M) := ⟨_, D, _, _, hrg0, ho2.out, by
    symm
    rw [List.filter_eq_self]
    intro p hp
    rw [ho2.out.has p.1 (ho2.out.wf p hp), findI_of_mem ho2.out.nodup (show (p.1, p.2) ∈ mapM M from hp)]; rfl⟩
  have hnd := Lib.hid ho2.out.nodup
  have hJ0 := Lib.hid (hJ.out [] W w0 none h0.out hg0 (fun r e => by cases e))
  have hsz0 := Lib.hid (show W.heap.size < w0.heap.size by rw [hs0]; omega)
  clear hrg0 hg0 ho1 hs0
  replace hIt0 := Lib.hid hIt0
  gi_loopw [4] (fun _ wr => ∃ (ss R : List Rs), ItK wr b W.heap.size (mapM M) (mapM R) ∧ (ss ++ R).Perm M ∧ (∀ x ∈ R, x ∈ M) ∧ W.heap.size < wr.heap.size ∧ J ss wr)
    (fun _ wr => wr.rangeLeft b W.heap.size)
  case atStart =>
    exact ⟨[], M, hIt0.out, by simp, fun x hx => hx, hsz0.out, hJ0.out⟩
  case round =>
    obtain ⟨ss, R, hIt, hP, hR, hsz, hJs⟩ := hrel
    rcases hIt.next 0 with ⟨hR0, hrun⟩ | ⟨p, w2, hpR, hpM, hIt2, ⟨hle, hml⟩, hm2, hs2, hrun, hen⟩
    · have hR0' : R = [] := by cases R with | nil => rfl | cons y R => cases hR0
      subst hR0'
      rw [List.append_nil] at hP
      replace hP := Lib.hid hP
      replace hJs := Lib.hid hJs
      clear hIt hR
      gi_wp2
      go_end0
      exact ⟨⟨_, rfl⟩, ss, hP.out, hJs.out⟩
    · obtain ⟨x, hxR, rfl⟩ := List.mem_map.1 hpR
      have hRn : (mapM R).Pairwise fun p q => p.1 ≠ q.1 := by
        have hsub : (mapM R).length = R.length := by simp [mapM]
        obtain ⟨n', D', left, cnt, _, hr2, hr3⟩ := hIt
        rw [hr3]; exact hr2.nodup.filter _
      obtain ⟨R', e1, e2⟩ := mapM_drop hRn hxR
      simp only at hIt2 hrun hen hle
      rw [e1] at hIt2 hle
      have hP2 : (ss ++ [x] ++ R').Perm M := by
        rw [List.append_assoc]
        exact (List.Perm.append_left ss e2).trans hP
      have hlen : ss.length < M.length := by
        have := hP2.length_eq
        simp at this; omega
      have hg2 : wr.grownBy w2 (some W.heap.size) := grown_of_mod (hm2.mono (fun i hi => hi))
      have hJ2 := hJ.out ss wr w2 _ hJs hg2 (fun r e => by cases e; exact ⟨Nat.le_refl _, hIt.iter_walk⟩)
      have hz := Lib.hid (Blk.new w2 37 #[.int .i64 0, .int .i64 0, .int .i64 0, .int .i64 0, .int .i64 0, .int .i64 0, .int .i64 0, .int .i64 0, .string ⟨#[]⟩, .string ⟨#[]⟩, .int .i64 0, .slice none 0 0, .int .i64 0, .int .i64 0, .string ⟨#[]⟩, .bool false, .slice none 0 0])
      unfold rsV at hrun hen
      replace hP := Lib.hid hP
      replace hP2 := Lib.hid hP2
      replace hJs := Lib.hid hJs
      replace hJ2 := Lib.hid hJ2
      replace hlen := Lib.hid hlen
      replace hR := Lib.hid hR
      replace hxR := Lib.hid hxR
      replace e2 := Lib.hid e2
      replace hIt := Lib.hid hIt
      replace hIt2 := Lib.hid hIt2
      replace hRn := Lib.hid hRn
      replace hm2 := Lib.hid hm2
      replace hs2 := Lib.hid hs2
      replace hg2 := Lib.hid hg2
      replace hle := Lib.hid hle
      replace hpR := Lib.hid hpR
      replace hpM := Lib.hid hpM
      gi_wp2_with (first
        | (refine wpListIn_store_blk rfl 37 (.tmp 4) (.tmp 10) rfl w2.heap.size 0 _ rfl rfl hz.out (by simp) rc_size (by rfl) #[.int .i64 x.r.i.r, .int .i64 x.r.i.n, .int .i64 x.r.bal, .int .i64 x.r.st, .int .i64 x.r.by_, .int .i64 x.r.e.o.c, .int .i64 x.r.e.o.s, .int .i64 x.r.e.o.k, .string (txt x.r.e.o.acct), .string (txt x.r.e.o.peer), .int .i64 x.r.e.o.sum, .slice x.L.a x.L.n x.L.c, .int .i64 x.r.e.o.per, .int .i64 x.r.e.o.hold, .string (txt x.r.e.o.note), .bool x.r.e.none, .slice x.D.a x.D.n x.D.c] rfl ?_; intro w3 hb3 hm3; have hm3' := ((Mod.refl none_ w2).alloc (.cells #[.int .i64 0, .int .i64 0, .int .i64 0, .int .i64 0, .int .i64 0, .int .i64 0, .int .i64 0, .int .i64 0, .string ⟨#[]⟩, .string ⟨#[]⟩, .int .i64 0, .slice none 0 0, .int .i64 0, .int .i64 0, .string ⟨#[]⟩, .bool false, .slice none 0 0] 37)).in_new (Nat.le_refl _) hm3; have hg3 := grown_new (World.grownBy_alloc w2 (.cells #[.int .i64 0, .int .i64 0, .int .i64 0, .int .i64 0, .int .i64 0, .int .i64 0, .int .i64 0, .int .i64 0, .string ⟨#[]⟩, .string ⟨#[]⟩, .int .i64 0, .slice none 0 0, .int .i64 0, .int .i64 0, .string ⟨#[]⟩, .bool false, .slice none 0 0] 37) none) (Nat.le_refl _) hm3; have hJ3 := hJ.out ss w2 w3 none hJ2.out hg3 (fun r e => by cases e); have hIt3 := Lib.hid (hIt2.out.mod hm3' (fun h => h) (fun h => h)); have hk23 := Lib.hid (KeepsWalks.of_grownBy hg3 (fun j o hj => by cases hj)); have hsz3 := Lib.hid (show W.heap.size < w3.heap.size from Nat.lt_of_lt_of_le (by have := hs2.out; omega) hg3.size); obtain ⟨fn, tmps, assign, body, hy, hRd⟩ := hK.out ss x w3 hJ3 hlen.out (hR.out x hxR.out); dsimp only [rsV] at hy; clear hm3 hm3' hg3 hJ3; replace hRd := Lib.hid hRd)
        | (refine wpListIn_load_blk rfl 37 (.tmp 4) rfl w2.heap.size 0 rfl hb3 [.int .i64 x.r.i.r, .int .i64 x.r.i.n, .int .i64 x.r.bal, .int .i64 x.r.st, .int .i64 x.r.by_, .int .i64 x.r.e.o.c, .int .i64 x.r.e.o.s, .int .i64 x.r.e.o.k, .string (txt x.r.e.o.acct), .string (txt x.r.e.o.peer), .int .i64 x.r.e.o.sum, .slice x.L.a x.L.n x.L.c, .int .i64 x.r.e.o.per, .int .i64 x.r.e.o.hold, .string (txt x.r.e.o.note), .bool x.r.e.none, .slice x.D.a x.D.n x.D.c] rfl Tryz.underlying37 rfl rc_size ?_)
        | gi_in)
      refine hRd.out.mono ?_
      rintro e w4 ⟨rfl, hJ4, hk4⟩
      have hIt4 := Lib.hid (hIt3.out.of_walks hk4)
      have hlft : Hid (w4.rangeLeft b W.heap.size < wr.rangeLeft b W.heap.size) := Lib.hid (by
        obtain ⟨_, _, _, _, g1, _⟩ := hIt2.out
        have g3 := (g1.of_walks hk23.out).of_walks hk4
        rw [g3.left_eq, ← g1.left_eq]
        exact hml)
      have hsz4 := Lib.hid (show W.heap.size < w4.heap.size from Nat.lt_of_lt_of_le hsz3.out hk4.size)
      clear hml
      replace hJ4 := Lib.hid hJ4
      gi_wp2
      go_roundw
      case rel => exact ⟨ss ++ [x], R', hIt4.out, hP2.out, fun y hy => hR.out y (e2.out.mem_iff.1 (List.mem_cons_of_mem _ hy)), hsz4.out, hJ4.out⟩
      case measure => exact hlft.out
end Go.Proofs.YtdnbclhidpkpgaaGreat
/-
  slices.AppendSeq, slices.Collect of records, against whatever iterator. No condition.
-/
namespace Go.Proofs.YtdnbclhidpkpgaaGreat
set_option linter.unusedVariables false
set_option linter.unusedSimpArgs false
open Go.RowKit Go.Sort Go.Shelf
attribute [local go_sem] Oper.semAt_some
def apAssignR : Code := (Code.region 2 #[{ dst := some 5, op := Op.alloc 37, type := 0, pos := "iter.go:51", after := #[], guard := none }, { dst := none, op := Op.store 37 (Operand.tmp 5) (Operand.tmp 7), type := 0, pos := "iter.go:51", after := #[{ on := 0, ground := Ground.data }, { on := 0, ground := Ground.phase }], guard := none }] false)
def apBodyR : Code := (Code.block 1 (Code.region 3 #[{ dst := some 8, op := Op.load 41 (Operand.tmp 2), type := 41, pos := "iter.go:52", after := #[], guard := none }, { dst := some 9, op := Op.load 37 (Operand.tmp 5), type := 37, pos := "iter.go:52", after := #[], guard := none }, { dst := some 10, op := Op.buildSlice 41 1 #[(0, Operand.tmp 9)], type := 41, pos := "iter.go:52", after := #[{ on := 1, ground := Ground.data }], guard := none }, { dst := some 11, op := Op.call { callee := Callee.builtin Builtin.append, args := #[Operand.tmp 8, Operand.tmp 10], argTypes := #[41, 41] }, type := 41, pos := "iter.go:52", after := #[{ on := 0, ground := Ground.data }, { on := 2, ground := Ground.data }], guard := none }, { dst := none, op := Op.store 41 (Operand.tmp 2) (Operand.tmp 11), type := 0, pos := "iter.go:52", after := #[{ on := 3, ground := Ground.data }, { on := 3, ground := Ground.chain }, { on := 0, ground := Ground.phase }, { on := 1, ground := Ground.phase }, { on := 2, ground := Ground.phase }, { on := 3, ground := Ground.phase }], guard := none }] false))
def apRecR (fn : FuncId) (sv : Value) (Bs D : Nat) (st : LoopState) (pend : Option Code) : Loop :=
  { state := st, pending := pend, fn, tmps := #[.slice none 0 0, sv, .pointer (some ⟨Bs, 0, none⟩), undef, .slice none 0 0, undef, sv, undef, undef, undef, undef, undef, undef], params := #[7], assign := apAssignR, body := apBodyR, defers := D }
/-- BETWEEN TWO ROUNDS: the box holds a slice that owns, in a block of the call's own, what has come so far; IT IS nil JUST AS LONG AS NOTHING HAS COME; nothing that lay before the call has turned. -/
structure ApAtR (w0 : World) (fn : FuncId) (sv : Value) (Bs l D : Nat) (ss : List Rs) (W : World) : Prop where
  box : ∃ v, W.heap[Bs]? = some (.cells #[v] 41 (0, 0)) ∧ W.ownsRow w0.heap.size 37 17 v ss.length (rss ss) ∧ (v = .slice none 0 0 ↔ ss = [])
  L : W.heap[l]? = some (.loop (apRecR fn sv Bs D .ready none))
  K : W.heap[D]? = some (.deferred (some []))
  below : Below w0.heap.size w0 W

theorem ap_abidesR (w0 : World) (fn : FuncId) (sv : Value) (Bs l D B : Nat) (hB : w0.heap.size ≤ B) : AbidesFrom B (ApAtR w0 fn sv Bs l D) := fun s W W' row h hg hrow => by
  have hrow' : ∀ r, row = some r → ∃ o : Obj, W.heap[r]? = some o ∧ o.isWalk = true := fun r e => (hrow r e).2
  obtain ⟨v, hv, hr, hn⟩ := h.box
  exact ⟨⟨v, (grownBy_keeps hg hrow' hv rfl).trans hv, ownsRow_abides_a hr hg hrow', hn⟩, (grownBy_keeps hg hrow' h.L rfl).trans h.L, (grownBy_keeps hg hrow' h.K rfl).trans h.K,
    h.below.grown hg h.below.size (fun k e => Nat.le_trans hB (hrow k e).1)⟩

set_option maxRecDepth 100000 in
set_option maxHeartbeats 2000000 in
theorem apYieldR (F : Fence) (m : Nat) (w0 : World) (fn : FuncId) (hfn : F.fn fn) (sv : Value) (Bs l D : Nat) (hBl : Bs ≠ l) (hDl : D ≠ l) (hDB : D ≠ Bs) (h0B : w0.heap.size ≤ Bs) (h0l : w0.heap.size ≤ l)
    (N : Nat) (hN : N ≤ maxLen) (hNb : N * 192 ≤ 140737488355328) (ss : List Rs) (x : Rs) (W : World) (h : ApAtR w0 fn sv Bs l D ss W) (hlen : ss.length < N) :
    YieldAt F m Tryz.prog l #[rsV x] W fun e W' => e = .returned (.bool true) ∧ ApAtR w0 fn sv Bs l D (ss ++ [x]) W' ∧ KeepsWalks W W' := by
  obtain ⟨i0, hi, hz0, hz1, hz2⟩ := info_parts rcinfo
  obtain ⟨v, hv, hrow, _⟩ := h.box
  refine ⟨fn, #[.slice none 0 0, sv, .pointer (some ⟨Bs, 0, none⟩), undef, .slice none 0 0, undef, sv, rsV x, undef, undef, undef, undef, undef], apAssignR, apBodyR, by simpa [apRecR] using run_yield (P := Tryz.prog) (args := #[rsV x]) h.L rfl, roundIn_of_wpIn hfn ?_⟩
  have hl : l < W.heap.size := (Array.getElem?_eq_some_iff.1 h.L).1
  have hz := Lib.hid (Blk.new W 37 #[.int .i64 0, .int .i64 0, .int .i64 0, .int .i64 0, .int .i64 0, .int .i64 0, .int .i64 0, .int .i64 0, .string ⟨#[]⟩, .string ⟨#[]⟩, .int .i64 0, .slice none 0 0, .int .i64 0, .int .i64 0, .string ⟨#[]⟩, .bool false, .slice none 0 0])
  have hB0 : Bs < W.heap.size := (Array.getElem?_eq_some_iff.1 hv).1
  have hD0 : D < W.heap.size := (Array.getElem?_eq_some_iff.1 h.K).1
  unfold apAssignR rsV
  gi_wp2_with (first
    | (refine wpListIn_store_blk rfl 37 (.tmp 5) (.tmp 7) rfl W.heap.size 0 _ rfl rfl hz.out (by simp) rc_size (by rfl) #[.int .i64 x.r.i.r, .int .i64 x.r.i.n, .int .i64 x.r.bal, .int .i64 x.r.st, .int .i64 x.r.by_, .int .i64 x.r.e.o.c, .int .i64 x.r.e.o.s, .int .i64 x.r.e.o.k, .string (txt x.r.e.o.acct), .string (txt x.r.e.o.peer), .int .i64 x.r.e.o.sum, .slice x.L.a x.L.n x.L.c, .int .i64 x.r.e.o.per, .int .i64 x.r.e.o.hold, .string (txt x.r.e.o.note), .bool x.r.e.none, .slice x.D.a x.D.n x.D.c] rfl ?_
       intro W1 hb1 hm1
       have hgn := grown_new (World.grownBy_alloc W (.cells #[.int .i64 0, .int .i64 0, .int .i64 0, .int .i64 0, .int .i64 0, .int .i64 0, .int .i64 0, .int .i64 0, .string ⟨#[]⟩, .string ⟨#[]⟩, .int .i64 0, .slice none 0 0, .int .i64 0, .int .i64 0, .string ⟨#[]⟩, .bool false, .slice none 0 0] 37) none) (Nat.le_refl _) hm1
       have hL1 : W1.heap[l]? = some (.loop (apRecR fn sv Bs D .ready none)) := (hgn.block l hl (by simp)).trans h.L
       have hbr := run_beginRound (P := Tryz.prog) hL1 rfl)
    | fail)
  have hv1 : W1.heap[Bs]? = some (.cells #[v] 41 (0, 0)) := (hgn.block Bs hB0 (by simp)).trans hv
  have hK1 : W1.heap[D]? = some (.deferred (some [])) := (hgn.block D hD0 (by simp)).trans h.K
  have hrow1 : W1.ownsRow w0.heap.size 37 17 v ss.length (rss ss) := hrow.kept hgn (Classical.em _)
  have hbb1 : Below w0.heap.size w0 W1 := h.below.grown hgn h.below.size (fun k e => by cases e)
  have hk1 : KeepsWalks W W1 := KeepsWalks.of_grownBy hgn (fun j o hj => by cases hj)
  obtain ⟨W2, hW2⟩ : ∃ W2, W1.putObj l (.loop { apRecR fn sv Bs D .ready none with state := .busy }) = W2 := ⟨_, rfl⟩
  rw [hW2] at hbr
  refine ⟨W2, hbr, ?_⟩
  have hg2 : W1.grownBy W2 (some l) := by rw [← hW2]; exact grownBy_putObj_a _ _ _
  have hk2 : KeepsWalks W W2 := hk1.trans (by rw [← hW2]; exact KeepsWalks.putObj _ hL1 rfl)
  have hb5 : Blk W2 W.heap.size 37 #[.int .i64 x.r.i.r, .int .i64 x.r.i.n, .int .i64 x.r.bal, .int .i64 x.r.st, .int .i64 x.r.by_, .int .i64 x.r.e.o.c, .int .i64 x.r.e.o.s, .int .i64 x.r.e.o.k, .string (txt x.r.e.o.acct), .string (txt x.r.e.o.peer), .int .i64 x.r.e.o.sum, .slice x.L.a x.L.n x.L.c, .int .i64 x.r.e.o.per, .int .i64 x.r.e.o.hold, .string (txt x.r.e.o.note), .bool x.r.e.none, .slice x.D.a x.D.n x.D.c] := by rw [← hW2]; exact (World.putObj_heap_other (by omega)).trans hb1
  have hv2 : W2.heap[Bs]? = some (.cells #[v] 41 (0, 0)) := by rw [← hW2]; exact (World.putObj_heap_other hBl).trans hv1
  have hK2 : W2.heap[D]? = some (.deferred (some [])) := by rw [← hW2]; exact (World.putObj_heap_other hDl).trans hK1
  have hL2 : W2.heap[l]? = some (.loop { apRecR fn sv Bs D .ready none with state := .busy }) := by rw [← hW2]; exact World.putObj_heap_same (Nat.lt_of_lt_of_le hl hgn.size)
  have hrow2 : W2.ownsRow w0.heap.size 37 17 v ss.length (rss ss) := hrow1.kept hg2 (ownsRow_ne_a hrow1 hL1 (fun cur e => by first | cases e | exact absurd (Obj.cells.inj e).2.1 (by decide)))
  have hb2 : Below w0.heap.size w0 W2 := hbb1.grown hg2 hbb1.size (fun k e => by cases e; exact h0l)
  obtain ⟨hc2, hf2⟩ := cell_of_box_a hv2
  have hBlt : Bs < W2.heap.size := (Array.getElem?_eq_some_iff.1 hv2).1
  have hl2 : l < W2.heap.size := (Array.getElem?_eq_some_iff.1 hL2).1
  have hDlt : D < W2.heap.size := (Array.getElem?_eq_some_iff.1 hK2).1
  have ne_of : ∀ {j : Nat} {o : Obj}, W2.heap[j]? = some o → (∀ cur, o ≠ .cells cur 37 (0, 0)) → some j ≠ v.ownBlock := fun hj hno => by
    rcases ownsRow_ne_a hrow2 hj hno with e | e
    · rw [e]; simp
    · exact fun e' => e e'.symm
  have hone := rdR_one W2 x
  unfold RdR rss at hone
  obtain ⟨hon1, hon2⟩ := hone
  obtain ⟨ad1, had1, hcell1⟩ := hon2 (by omega)
  cases had1
  have hrx : [x].flatMap rsC = rsC x := by simp
  rw [hrx] at hcell1
  clear hm1 hgn hz hv1 hK1 hrow1 hbb1 hk1 hL1 hb1 hbr hW2 hg2
  unfold apBodyR
  gi_wp2_with (first
    | (refine wpListIn_load_blk rfl 37 (.tmp 5) rfl W.heap.size 0 rfl hb5 [.int .i64 x.r.i.r, .int .i64 x.r.i.n, .int .i64 x.r.bal, .int .i64 x.r.st, .int .i64 x.r.by_, .int .i64 x.r.e.o.c, .int .i64 x.r.e.o.s, .int .i64 x.r.e.o.k, .string (txt x.r.e.o.acct), .string (txt x.r.e.o.peer), .int .i64 x.r.e.o.sum, .slice x.L.a x.L.n x.L.c, .int .i64 x.r.e.o.per, .int .i64 x.r.e.o.hold, .string (txt x.r.e.o.note), .bool x.r.e.none, .slice x.D.a x.D.n x.D.c] rfl Tryz.underlying37 rfl rc_size ?_)
    | (gi_at_builtin; refine wpListIn_append_own _ rfl _ _ 41 rfl w0.heap.size 37 i0 _ 17 192 Tryz.underlying41 hi hz0 hz1 hz2 rfl (by decide) _ _ _ rfl (hrow2.alloc _) ⟨W2.heap.size, 0, none⟩ 1 1 (rsC x) rfl rfl hcell1 (fun u hu => rss_one [x] u (by unfold rss; rw [hrx]; exact hu)) (by omega) (by omega) (by have := hb2.size; simp; omega) ?_; intro v' w3 hown' hg3 hnil3
       have hv3 : w3.heap[Bs]? = some (.cells #[v] 41 (0, 0)) := (hg3.block Bs (by simp; omega) (ne_of hv2 (fun cur e => by first | cases e | exact absurd (Obj.cells.inj e).2.1 (by decide)))).trans ((Below.heap_alloc _ _ Bs hBlt).trans hv2)
       obtain ⟨hc3, hf3⟩ := cell_of_box_a hv3
       obtain ⟨g', cap', cur', rfl, hbase', hgb', hr1, hr2, hr3, hr4⟩ : ∃ g' cap' cur', v' = .slice (some ⟨g', 0, none⟩) (ss.length + 1) cap' ∧ w0.heap.size ≤ g' ∧ w3.heap[g']? = some (.cells cur' 37 (0, 0)) ∧ ss.length + 1 ≤ cap' ∧ cap' ≤ maxLen ∧ cur'.size = cap' * 17 ∧ cur'.toList.take ((ss.length + 1) * 17) = rss ss ++ rsC x := by
         rcases hown'.2 with ⟨_, h0⟩ | h'
         · exact absurd h0 (by omega)
         · exact h'
       go_frame)
    | fail)
  have hg3' : (W2.alloc (.cells #[.int .i64 x.r.i.r, .int .i64 x.r.i.n, .int .i64 x.r.bal, .int .i64 x.r.st, .int .i64 x.r.by_, .int .i64 x.r.e.o.c, .int .i64 x.r.e.o.s, .int .i64 x.r.e.o.k, .string (txt x.r.e.o.acct), .string (txt x.r.e.o.peer), .int .i64 x.r.e.o.sum, .slice x.L.a x.L.n x.L.c, .int .i64 x.r.e.o.per, .int .i64 x.r.e.o.hold, .string (txt x.r.e.o.note), .bool x.r.e.none, .slice x.D.a x.D.n x.D.c] 37)).grownBy w3 v.ownBlock := hg3
  have hL3 : w3.heap[l]? = some (.loop { apRecR fn sv Bs D .ready none with state := .busy }) := (hg3'.block l (by simp; omega) (ne_of hL2 (fun cur e => by first | cases e | exact absurd (Obj.cells.inj e).2.1 (by decide)))).trans ((Below.heap_alloc _ _ l hl2).trans hL2)
  have hK3 : w3.heap[D]? = some (.deferred (some [])) := (hg3'.block D (by simp; omega) (ne_of hK2 (fun cur e => by first | cases e | exact absurd (Obj.cells.inj e).2.1 (by decide)))).trans ((Below.heap_alloc _ _ D hDlt).trans hK2)
  obtain ⟨w4, hw4⟩ : ∃ w4, w3.setCell ⟨Bs, 0, none⟩ (.slice (some ⟨g', 0, none⟩) (ss.length + 1) cap') = w4 := ⟨_, rfl⟩
  rw [hw4]
  have hg4 : w3.grownBy w4 (some Bs) := by rw [← hw4]; exact grownBy_setCell0_a _ _ _
  have hv4 : w4.heap[Bs]? = some (.cells #[.slice (some ⟨g', 0, none⟩) (ss.length + 1) cap'] 41 (0, 0)) := by rw [← hw4]; exact heap_setCell_box_a _ hv3
  have hL4 : w4.heap[l]? = some (.loop { apRecR fn sv Bs D .ready none with state := .busy }) := (hg4.block l (Array.getElem?_eq_some_iff.1 hL3).1 (fun e => hBl (by cases e; rfl))).trans hL3
  have hK4 : w4.heap[D]? = some (.deferred (some [])) := (hg4.block D (Array.getElem?_eq_some_iff.1 hK3).1 (fun e => hDB (by cases e; rfl))).trans hK3
  have hrow4 := hown'.kept hg4 (ownsRow_ne_a hown' hv3 (fun cur e => by first | cases e | exact absurd (Obj.cells.inj e).2.1 (by decide)))
  have hl4 : l < w4.heap.size := (Array.getElem?_eq_some_iff.1 hL4).1
  have hb3 : Below w0.heap.size w0 w3 := (hb2.alloc hb2.size _).grown hg3' (by have := hb2.size; simp; omega) (fun k e => (hrow2.lt k e).1)
  have hb4 : Below w0.heap.size w0 w4 := hb3.grown hg4 hb3.size (fun k e => by cases e; exact h0B)
  have hk4 : KeepsWalks W w4 := ((hk2.trans (KeepsWalks.alloc _ _)).trans (KeepsWalks.of_grownBy hg3' (ownsRow_not_walk_a (hrow2.alloc _)))).trans (by rw [← hw4]; exact KeepsWalks.setCell _ _ _)
  clear hw4
  refine ⟨_, _, run_endRound none hL4, rfl, ⟨⟨_, (World.putObj_heap_other hBl).trans hv4, ?_, by simp⟩, World.putObj_heap_same hl4, (World.putObj_heap_other hDl).trans hK4, hb4.grown (grownBy_putObj_a _ _ _) hb4.size (fun k e => by cases e; exact h0l)⟩, hk4.trans (KeepsWalks.putObj _ hL4 rfl)⟩
  have := hrow4.kept (grownBy_putObj_a w4 l (.loop { { apRecR fn sv Bs D .ready none with state := .busy } with state := if (none : Option Code).isNone then .ready else .done, pending := none })) (ownsRow_ne_a hrow4 hL4 (fun cur e => by first | cases e | exact absurd (Obj.cells.inj e).2.1 (by decide)))
  rw [show rss (ss ++ [x]) = rss ss ++ rsC x by rw [rss_append]; unfold rss; rw [hrx]]
  simpa using this


set_option maxRecDepth 100000 in
set_option maxHeartbeats 2000000 in
/-- **slices.AppendSeq(nil, seq), AGAINST WHATEVER ITERATOR VALUE THAT 'SeqGives'**: it hands back a slice that owns, in a block of the call's own, JUST WHAT THE ITERATOR GAVE, IN THAT ORDER; nil JUST WHERE IT GAVE NOTHING (as Go: 'slices.Collect' of nothing is nil); nothing that lay before the call has turned. -/
theorem appendSeqR_in (F : Fence) (n : Nat) (h11 : F.fn 105) (hro : F.round = none) (hn : 2 ≤ n) (g : Nat) (lb : Array Value) (hFg : F.fn g) (eg : ∀ args w, (callFunc g args).run Tryz.prog w = .ok (.enter g args) w)
    (S : List Rs → Prop) (N : Nat) (hN : N ≤ maxLen) (hNb : N * 192 ≤ 140737488355328) (w : World) (hseq : SeqGives F (n - 1) Tryz.prog g lb rsV S N w) :
    CallsIn F n Tryz.prog 105 #[.slice none 0 0, .func (.func g) #[] lb] w fun e w' => ∃ (v : Value) (ss : List Rs), e = .returned v ∧ S ss ∧ w'.ownsRow w.heap.size 37 17 v ss.length (rss ss) ∧ (v = .slice none 0 0 ↔ ss = []) ∧ Below w.heap.size w w' := by
  have h1 : 1 ≤ n := by omega
  refine callsIn_of_wp_marks Tryz.func105 rfl h11 ?_ hro
  simp only [Tryz.ntmps105, List.size_toArray, List.length_cons, List.length_nil, Nat.reduceAdd, Nat.reduceSub, Array.replicate_succ, Array.replicate_zero, List.push_toArray, List.append_toArray, List.nil_append, List.cons_append]
  gi_wp2
  refine wpIn_rangeFunc ?_
  intro fn hfn
  rw [hro]
  obtain ⟨W0, hW0⟩ : ∃ W0, w.alloc (.cells #[.slice none 0 0] 41) = W0 := ⟨_, rfl⟩
  have hs0 : W0.heap.size = w.heap.size + 1 := by rw [← hW0]; simp
  have hv0 : W0.heap[w.heap.size]? = some (.cells #[.slice none 0 0] 41 (0, 0)) := by rw [← hW0]; exact World.alloc_heap_new w _
  have hb0 : Below w.heap.size w W0 := by rw [← hW0]; exact (Below.refl _ w).alloc (Nat.le_refl _) _
  rw [hW0]
  obtain ⟨W1, hW1⟩ : ∃ W1, (W0.alloc (.deferred (some []))).alloc (.loop (apRecR fn (.func (.func g) #[] lb) w.heap.size W0.heap.size .ready none)) = W1 := ⟨_, rfl⟩
  have hold : ∀ k, k < W0.heap.size → W1.heap[k]? = W0.heap[k]? := fun k hk => by
    rw [← hW1]; exact (Below.heap_alloc _ _ k (by simp; omega)).trans (Below.heap_alloc _ _ k hk)
  have hb1 : Below w.heap.size w W1 := by rw [← hW1]; exact (hb0.alloc hb0.size _).alloc (by have := hb0.size; simp; omega) _
  have hs1 : W1.heap.size = W0.heap.size + 2 := by rw [← hW1]; simp
  have hM : ApAtR w fn (.func (.func g) #[] lb) w.heap.size (W0.heap.size + 1) W0.heap.size [] W1 :=
    ⟨⟨_, (hold w.heap.size (by omega)).trans hv0, ⟨rfl, .inl ⟨rfl, rfl⟩⟩, by simp⟩,
     by rw [← hW1]; have := World.alloc_heap_new (W0.alloc (.deferred (some []))) (.loop (apRecR fn (.func (.func g) #[] lb) w.heap.size W0.heap.size .ready none)); rwa [World.size_alloc] at this,
     by rw [← hW1]; exact (Below.heap_alloc _ _ _ (by simp)).trans (World.alloc_heap_new W0 _), hb1⟩
  refine ⟨W0.heap.size + 1, [{ target := .collected W0.heap.size, args := #[] }], W1, { target := .fn (.func g) lb, args := #[.func (.yield (W0.heap.size + 1)) #[] #[]] }, W1, g,
    #[.func (.yield (W0.heap.size + 1)) #[] #[]] ++ lb, W1, ?_, ?_, ?_, ?_, fun _ => h1, ?_⟩
  · rw [← hW1]; exact run_enterLoop_outer _ _ _ _ _
  · simp [resolve, go_sem]
  · intro f' hf'; simp [Target.leads] at hf'; subst hf'; exact hFg
  · simp [invoke, go_sem, eg]
  · refine (hseq (W0.heap.size + 1) (ApAtR w fn (.func (.func g) #[] lb) w.heap.size (W0.heap.size + 1) W0.heap.size) W1 hb1 (ap_abidesR _ _ _ _ _ _ _ hb1.size)
      (fun pre x W hJ hl => apYieldR F (n - 1 - 1) w fn hfn _ w.heap.size (W0.heap.size + 1) W0.heap.size (by omega) (by omega) (by omega) (Nat.le_refl _) (by omega) N hN hNb pre x W hJ hl) hM).mono ?_
    rintro e W2 ⟨⟨v0, rfl⟩, ss, hS, h2⟩
    obtain ⟨v, hv, hrow, hnil⟩ := h2.box
    have hend := run_endLoop (P := Tryz.prog) h2.L (by simp [apRecR])
    obtain ⟨W3, hW3⟩ : ∃ W3, W2.putObj (W0.heap.size + 1) (.loop { apRecR fn (.func (.func g) #[] lb) w.heap.size W0.heap.size .ready none with state := .exhausted }) = W3 := ⟨_, rfl⟩
    rw [hW3] at hend
    have hg3 : W2.grownBy W3 (some (W0.heap.size + 1)) := by rw [← hW3]; exact grownBy_putObj_a _ _ _
    have hv3 : W3.heap[w.heap.size]? = some (.cells #[v] 41 (0, 0)) := by rw [← hW3]; exact (World.putObj_heap_other (by omega)).trans hv
    have hK3 : W3.heap[W0.heap.size]? = some (.deferred (some [])) := by rw [← hW3]; exact (World.putObj_heap_other (by omega)).trans h2.K
    have hrow3 := hrow.kept hg3 (ownsRow_ne_a hrow h2.L (fun cur e => by first | cases e | exact absurd (Obj.cells.inj e).2.1 (by decide)))
    have hb3 : Below w.heap.size w W3 := h2.below.grown hg3 h2.below.size (fun k e => by cases e; omega)
    obtain ⟨hc3, hf3⟩ := cell_of_box_a hv3
    clear hW3
    refine ⟨none, W3, hend, ?_⟩
    gi_wp2
    rw [← hs0]
    refine ⟨by simp, .inl ⟨_, _, rfl, run_takeDeferred hK3, ?_⟩⟩
    exact ⟨_, results_tmp rfl _ _ _, v, ss, rfl, hS, hrow3.kept (grownBy_putObj_a _ _ _) (ownsRow_ne_a hrow3 hK3 (fun cur e => by first | cases e | exact absurd (Obj.cells.inj e).2.1 (by decide))), hnil, hb3.grown (grownBy_putObj_a _ _ _) hb3.size (fun k e => by cases e; omega)⟩


set_option maxRecDepth 100000 in
set_option maxHeartbeats 1000000 in
/-- **slices.Collect(seq), AGAINST WHATEVER ITERATOR VALUE.** -/
theorem collectR_in (F : Fence) (n : Nat) (h8 : F.fn 91) (h11 : F.fn 105) (hro : F.round = none) (hn : 3 ≤ n) (g : Nat) (lb : Array Value) (hFg : F.fn g) (eg : ∀ args w, (callFunc g args).run Tryz.prog w = .ok (.enter g args) w)
    (S : List Rs → Prop) (N : Nat) (hN : N ≤ maxLen) (hNb : N * 192 ≤ 140737488355328) (w : World) (hseq : SeqGives F (n - 1 - 1) Tryz.prog g lb rsV S N w) :
    CallsIn F n Tryz.prog 91 #[.func (.func g) #[] lb] w fun e w' => ∃ (v : Value) (ss : List Rs), e = .returned v ∧ S ss ∧ w'.ownsRow w.heap.size 37 17 v ss.length (rss ss) ∧ (v = .slice none 0 0 ↔ ss = []) ∧ Below w.heap.size w w' := by
  have h1 : 1 ≤ n := by omega
  have e11 : ∀ args w, (callFunc 105 args).run Tryz.prog w = .ok (.enter 105 args) w := fun args w => rfl
  refine callsIn_of_wp Tryz.func91 rfl h8 ?_ hro
  simp only [Tryz.ntmps91, List.size_toArray, List.length_cons, List.length_nil, Nat.reduceAdd, Nat.reduceSub, Array.replicate_succ, Array.replicate_zero, List.push_toArray, List.append_toArray, List.nil_append, List.cons_append]
  gi_wp2_with (gi_at_fn 105; refine (appendSeqR_in F (n - 1) h11 hro (by omega) g lb hFg eg S N hN hNb _ hseq).mono ?_; rintro e w' ⟨v, ss, rfl, hS, hrow, hnil, hb⟩)
  go_ret
  exact ⟨v, ss, rfl, hS, hrow, hnil, hb⟩

end Go.Proofs.YtdnbclhidpkpgaaGreat
/-
  'make' of a row of one-cell elements, and 'copy' that fills a whole row. No condition.
-/
namespace Go.Proofs.YtdnbclhidpkpgaaGreat
set_option linter.unusedVariables false
set_option linter.unusedSimpArgs false
open Go.RowKit
theorem copy_all {P : Program} {w : World} {ops : Array Oper} {rest : List Oper} {o : Oper} {a : Act} {Q : Exit → Act → World → Prop} (hgd : o.guard = none) (d s : Operand) (dT sT elem : TypeId)
    (ho : o.op = .call { callee := .builtin .copy, args := #[d, s], argTypes := #[dT, sT] }) (hu : P.underlying dT = some (.slice elem)) (hsz : (P.info? elem).map (·.size) = some 1)
    {g n c1 c2 : Nat} {S : Option Addr} {xs : List Value} {cur : Array Value} (hd : a.eval d = .slice (some ⟨g, 0, none⟩) n c1) (hs : a.eval s = .slice S n c2) (hg : Blk w g elem cur) (hcur : cur.size = n) (hn : n ≤ maxLen)
    (hr : Rd w 1 S n xs) (h1 : ∀ u ∈ xs, u.oneCell' = true)
    (h : ∀ w', Ow w' elem 1 (some ⟨g, 0, none⟩) n n xs → Mod (fun k => k = g) w w' → wpList P ops Q rest (a.put o.dst (goInt n)) w') : wpList P ops Q (o :: rest) a w := by
  have hx : xs.length = n := by have := hr.1; omega
  rcases Nat.eq_zero_or_pos n with h0 | h0
  · subst h0
    refine wpList_copy_nothing hgd d s dT sT ho elem hu hsz _ _ _ _ _ _ hd hs (by simp) ?_
    have : xs = [] := List.eq_nil_of_length_eq_zero hx
    subst this
    exact h w ⟨by simp, by omega, by omega, .inr ⟨g, cur, rfl, hg, by omega, by simp⟩⟩ (Mod.refl _ w)
  · obtain ⟨ad, rfl, hc⟩ := hr.2 h0
    have hx2 := hx
    refine wpList_copy_own hgd d s dT sT ho elem hu hsz g 0 n c1 ad n c2 hd hs cur elem hg xs (by simp [hx]) hc (by omega) h1 ?_
    have e : (cur.toList.take 0 ++ (xs ++ cur.toList.drop (0 + xs.length))) = xs := by
      rw [List.drop_eq_nil_of_le (by simp; omega)]; simp
    rw [e, hx]
    refine h _ ⟨by omega, by omega, by omega, .inr ⟨g, xs.toArray, rfl, setRow_heap w g cur _ elem _ hg, by simp [hx], by simp [← hx]⟩⟩ ⟨rfl, rfl, rfl, by simp, fun k _ hk => setRow_other w g k _ (fun e => hk e)⟩
/-- 'make([]T, n)' as a rule of the walk. -/
theorem make_run {P : Program} (w : World) (t e : TypeId) (z : Value) (bytes n : Nat) (ht : P.underlying t = some (.slice e)) (hinfo : (P.info? e).map (fun i => (i.zero, i.size, i.bytes)) = some (some z, 1, bytes)) (hz1 : z.cells = #[z])
    (hbytes : bytes * n ≤ 281474976710656) (h63 : n ≤ 9223372036854775807) :
    (Instr.makeSlice t (.int .i64 (n : Int)) (.int .i64 (n : Int))).run P w = .ok (.slice (some ⟨w.heap.size, 0, none⟩) n n) (w.alloc (.cells (madeCells #[z] n) e)) :=
  run_make_row' t e z bytes ht hinfo hz1 .i64 .i64 n hbytes h63 w
end Go.Proofs.YtdnbclhidpkpgaaGreat
/-
  '[]byte(s)' as a step of the walk. No condition.
-/
namespace Go.Proofs.YtdnbclhidpkpgaaGreat
set_option linter.unusedVariables false
set_option linter.unusedSimpArgs false
open Go.RowKit
theorem txt_size (l : List UInt8) : (txt l).size = l.length := by simp [txt, ByteArray.size]
theorem bytes_of_run (w : World) (l : List UInt8) : ∃ A c w', (convert 9 22 (.string (txt l))).run Tryz.prog w = .ok (.slice A l.length c) w' ∧ RdB w' A l.length l ∧ Fresh w A ∧ l.length ≤ c ∧ Mod none_ w w' ∧ (∀ k, fp A k → k < w'.heap.size) := by
  have h := Lib.run_convert_string_bytes (P := Tryz.prog) w 9 22 5 (txt l) Tryz.underlying9 Tryz.underlying22 Tryz.underlying5
  rw [txt_size] at h
  refine ⟨_, _, _, h, ⟨by simp [bvs_length], fun hn => ⟨_, rfl, fun j u hu => ?_⟩⟩, ?_, ?_, ⟨rfl, ?_, rfl, ?_, ?_⟩, ?_⟩
  · have hj : j < l.length := by
      have := (List.getElem?_eq_some_iff.1 hu).1
      simpa [bvs_length] using this
    rw [bvs_get hj] at hu
    have := Lib.bytesWorld_cell w 5 (txt l) j (by rw [txt_size]; exact hj)
    rw [add_lit, this, ← hu]
    have e : (txt l).data.toList = l := rfl
    rw [e]
    simp [List.getD, hj]
  · intro a ha; cases ha; exact Nat.le_refl _
  · exact grownCap_ge _ _ _ _
  · simp [Lib.bytesWorld, World.freeze, World.alloc, World.drew, -World.alloc_eq, -World.drew_eq]
  · rw [Lib.bytesWorld_size]; omega
  · intro k hk _; exact Lib.bytesWorld_at_old w _ _ k hk
  · rintro k ⟨a, ha, rfl⟩; cases ha; rw [Lib.bytesWorld_size]; simp
theorem conv_b {w : World} {ops : Array Oper} {rest : List Oper} {o : Oper} {a : Act} {Q : Exit → Act → World → Prop} (hgd : o.guard = none) (x : Operand) (ho : o.op = .convert 9 22 x)
    {l : List UInt8} (hx : a.eval x = .string (txt l))
    (h : ∀ A c w', RdB w' A l.length l → Fresh w A → l.length ≤ c → Mod none_ w w' → (∀ k, fp A k → k < w'.heap.size) → wpList Tryz.prog ops Q rest (a.put o.dst (.slice A l.length c)) w') : wpList Tryz.prog ops Q (o :: rest) a w := by
  refine wpList_plain hgd fun K hK => ?_
  obtain ⟨A, c, w', hrun, h1, h2, h3, h4, h5⟩ := bytes_of_run w l
  unfold Oper.wp
  simp [execOp, ho, hx, hrun, Result.andThen]
  exact hK _ _ (h A c w' h1 h2 h3 h4 h5)
end Go.Proofs.YtdnbclhidpkpgaaGreat
/-
  The contracts of pack.New, pack.Text, pack.Nums. No condition.
-/
namespace Go.Proofs.YtdnbclhidpkpgaaGreat
set_option linter.unusedVariables false
set_option linter.unusedSimpArgs false
open Go.RowKit
theorem u8size : (Tryz.prog.info? 5).map (·.size) = some 1 := by kernel_rfl
def NewPost (w : World) (l : List UInt8) (en : Ending) (w' : World) : Prop := ∃ g B, en = .returned (.pointer (some ⟨g, 0, none⟩)) ∧ Rdr w' g B l 0 ∧ w.heap.size ≤ g ∧ w.heap.size ≤ B ∧ B < w'.heap.size ∧ Mod none_ w w'
set_option maxRecDepth 100000 in
theorem new_ok (w : World) (A : Option Addr) (n c : Nat) (l : List UInt8) (h : RdB w A n l) (hn : n ≤ 140737488351232) : Calls Tryz.prog 34 #[.slice A n c] w (NewPost w l) := by
  have hl := h.len
  subst hl
  have hmk := make_run (P := Tryz.prog) w 22 5 _ _ l.length Tryz.underlying22 u8info rfl (by omega) (by omega)
  replace h := Lib.hid h
  go_enter Tryz.func34, Tryz.ntmps34
  go_wp2_with (show wpList _ _ _ (⟨some 14, _, _, _, _, _⟩ :: _) _ _; go_loud (refine copy_all (cur := madeCells #[.int .u8 0] l.length) (xs := bvs l) rfl (.tmp 12) (.tmp 13) 22 22 5 rfl Tryz.underlying22 u8size rfl rfl ?c1 ?c2 ?c3 ?c4 ?c5 ?_))
  case c1 => exact (Blk.new w _ _).alloc _
  case c2 => exact size_madeCells _ _
  case c3 => unfold maxLen; omega
  case c4 => exact h.out.mod0 (((Mod.refl none_ w).alloc _).alloc _)
  case c5 => exact bvs_one l
  intro w' ho hm
  have hb : Blk w' (w.heap.size + 1) 111 #[.slice (some ⟨w.heap.size, 0, none⟩) l.length l.length, .int .i64 ((0 : Nat) : Int)] := by
    have := Blk.new (w.alloc (.cells (madeCells #[.int .u8 0] l.length) 5)) 111 #[.slice (some ⟨w.heap.size, 0, none⟩) l.length l.length, .int .i64 ((0 : Nat) : Int)]
    simp only [World.size_alloc] at this
    exact this.mod hm (by simp)
  have hsz := hm.size
  simp only [World.size_alloc] at hsz
  replace ho := Lib.hid ho
  replace hm := Lib.hid hm
  replace hb := Lib.hid hb
  go_wp2_with fail
  go_ret
  refine ⟨w.heap.size + 1, w.heap.size, rfl, ⟨_, _, _, hb.out, ho.out.rd, by omega, by omega, ?_, by omega⟩, by omega, by omega, by omega, ?_⟩
  · rintro j ⟨a, ha, rfl⟩; cases ha; rfl
  · exact (((Mod.refl none_ w).alloc _).alloc _).then hm.out (fun i hi hk => by omega)
def BytesPost (w : World) (l : List UInt8) (e : Ending) (w' : World) : Prop := ∃ A c, e = .returned (.slice A l.length c) ∧ OwB w' 5 A l.length c l ∧ Fresh w A ∧ Mod none_ w w'
/-- A text's bytes. -/
def txtB (s : List UInt8) : List UInt8 := vb (zig (s.length : Int)) ++ s
theorem zig_nat (n : Nat) : zig (n : Int) = 2 * n := by unfold zig; rw [if_pos (by omega)]; omega
theorem NumPost.nat {w : World} {n : Int} {e : Ending} {w' : World} (h : NumPost w n e w') : ∃ A k c, e = .returned (.slice A k c) ∧ OwB w' 5 A k c (vb (zig n)) ∧ Fresh w A ∧ Mod none_ w w' ∧ k ≤ 10 := h
set_option maxRecDepth 100000 in
theorem text_ok (w : World) (s : List UInt8) (hs : s.length ≤ 1000000000000) : Calls Tryz.prog 49 #[.string (txt s)] w (BytesPost w (txtB s)) := by
  have hsz : (txt s).size = s.length := by simp [txt, ByteArray.size]
  go_enter Tryz.func49, Tryz.ntmps49
  go_wp2_with fail
  refine (num_ok _ (s.length : Int) (by omega) (by omega)).mono ?_
  rintro e w1 ⟨A, k, c, rfl, ho, hf, hm, hk⟩
  dsimp only
  replace ho := Lib.hid ho
  replace hf := Lib.hid hf
  replace hm := Lib.hid hm
  replace hsz := Lib.hid hsz
  go_wp2_with (show wpList _ _ _ (⟨some 7, _, _, _, _, _⟩ :: _) _ _; go_loud (refine conv_b rfl (.tmp 6) rfl rfl ?_; intro A2 c2 w2 hr2 hf2 hc2 hm2 hl2; replace hr2 := Lib.hid hr2; replace hf2 := Lib.hid hf2; replace hm2 := Lib.hid hm2; replace hl2 := Lib.hid hl2))
  refine (concat2_ok _ w2.heap.size A A2 k s.length c c2 _ _ (rdn w2 _ 1 2 _ #[.slice A k c, .slice A2 s.length c2] (0, 0) rfl rfl) ((ho.out.rd.mod0 hm2.out).alloc _) (Rd.alloc hr2.out _) (by omega)).mono ?_
  rintro e w3 ⟨A3, c3, rfl, ho3, hf3, hm3⟩
  dsimp only
  have hlen := ho3.len
  rw [List.length_append] at hlen
  have hmm := (((hm.out.trans hm2.out).alloc (.cells #[.slice A k c, .slice A2 s.length c2] 22)))
  replace ho3 := Lib.hid ho3
  replace hf3 := Lib.hid hf3
  replace hm3 := Lib.hid hm3
  replace hlen := Lib.hid hlen
  replace hmm := Lib.hid hmm
  go_wp2_with fail
  go_ret
  have el : (txtB s).length = k + s.length := by have := hlen.out; rw [txtB, List.length_append]; omega
  refine ⟨A3, c3, by rw [el]; rfl, by rw [el]; exact ho3.out, hf3.out.later hmm.out.size, hmm.out.trans hm3.out⟩
/-- A list's bytes. -/
def numsB (xs : List Int) : List UInt8 := vb (zig (xs.length : Int)) ++ xs.flatMap fun x => vb (zig x)
def i64In (xs : List Int) : Prop := ∀ x ∈ xs, -9223372036854775808 ≤ x ∧ x ≤ 9223372036854775807
theorem rdi_at {w : World} {A : Option Addr} {n : Nat} {xs : List Int} (h : RdI w A n xs) {j : Nat} (hj : j < n) : ∃ b o x, A = some ⟨b, o, none⟩ ∧ xs[j]? = some x ∧ w.cell? ⟨b, o + j, none⟩ = some (.int .i64 x) := by
  obtain ⟨b, o, e, hc⟩ := Rd.form h (by omega) (by omega)
  have hl : j < xs.length := by rw [h.len]; exact hj
  exact ⟨b, o, xs[j], e, List.getElem?_eq_getElem hl, hc j _ (ivs_get hl)⟩
def NmRel (w : World) (xs : List Int) (j : Nat) (v : Value) (wr : World) : Prop :=
  ∃ A t c, v = .slice A t c ∧ OwB wr 5 A t c (vb (zig (xs.length : Int)) ++ (xs.take j).flatMap fun x => vb (zig x)) ∧ Fresh w A ∧ Mod none_ w wr ∧ t ≤ 10 * (j + 1)
end Go.Proofs.YtdnbclhidpkpgaaGreat
/-
  The contract of pack.Reader.Num. No condition.
-/
namespace Go.Proofs.YtdnbclhidpkpgaaGreat
set_option linter.unusedVariables false
set_option linter.unusedSimpArgs false
open Go.RowKit
theorem rdb_form {w : World} {A : Option Addr} {n : Nat} {l : List UInt8} (h : RdB w A n l) (hn : 0 < n) : ∃ b o, A = some ⟨b, o, none⟩ ∧ ∀ k (hk : k < l.length), w.cell? ⟨b, o + k, none⟩ = some (.int .u8 (l[k].toNat : Int)) := by
  obtain ⟨b, o, e, hc⟩ := Rd.form h hn (by omega)
  exact ⟨b, o, e, fun k hk => hc k _ (bvs_get hk)⟩
def lng (n k x : Nat) : Nat := if k + 1 = n ∧ 128 ≤ x ∧ k < 10 then 4 else 3
set_option maxRecDepth 100000 in
theorem long_ok (w : World) (g b o n c k x : Nat) (E : Value) (hb : Blk w g 111 #[.slice (some ⟨b, o, none⟩) n c, E]) (hk : k < n) (hn : n ≤ 9223372036854775807) (hx : w.cell? ⟨b, o + k, none⟩ = some (.int .u8 (x : Int))) :
    Calls Tryz.prog 110 #[.pointer (some ⟨g, 0, none⟩), .int .i64 (k : Int)] w fun en w' => en = .returned (.int .i64 (lng n k x : Nat)) ∧ w = w' := by
  obtain ⟨h1, h2, h3, h4⟩ := hb.two
  replace hb := Lib.hid hb
  by_cases c1 : k + 1 = n
  · obtain rfl : n = k + 1 := by omega
    clear c1
    by_cases c2 : 128 ≤ x
    · by_cases c3 : k < 10
      · have r := Lib.hid (show lng (k + 1) k x = 4 by simp [lng, *])
        go_enter Tryz.func110, Tryz.ntmps110
        go_wp2
        go_ret
        exact ⟨by rw [r.out]; rfl, rfl⟩
      · have r := Lib.hid (show lng (k + 1) k x = 3 by simp [lng, *])
        go_enter Tryz.func110, Tryz.ntmps110
        go_wp2
        go_ret
        exact ⟨by rw [r.out]; rfl, rfl⟩
    · have r := Lib.hid (show lng (k + 1) k x = 3 by simp [lng, *])
      go_enter Tryz.func110, Tryz.ntmps110
      go_wp2
      go_ret
      exact ⟨by rw [r.out]; rfl, rfl⟩
  · have r := Lib.hid (show lng n k x = 3 by simp [lng, c1])
    have hd : ((k : Int) == (n : Int) - 1) = false := by simp; omega
    go_enter Tryz.func110, Tryz.ntmps110
    go_wp2
    go_ret
    exact ⟨by rw [r.out]; rfl, rfl⟩
/-- What Reader.Num tells: the number, the error, what is left. -/
def rn (l : List UInt8) (e : Nat) : Int × Nat × List UInt8 :=
  if e ≠ 0 then (0, e, l) else if (rdNum l).1 = 0 then (unzig (rdNum l).2.1, 0, l.drop (rdNum l).2.2) else (0, (rdNum l).1, [])
def RPost (w : World) (g B : Nat) (r : Int × Nat × List UInt8) (en : Ending) (w' : World) : Prop :=
  en = .returned (.tuple #[.int .i64 r.1, .int .i64 (r.2.1 : Int)]) ∧ Rdr w' g B r.2.2 r.2.1 ∧ Mod (only g) w w'
set_option maxRecDepth 100000 in
theorem rnum_nil (w : World) : Calls Tryz.prog 95 #[.pointer none] w fun en w' => en = .returned (.tuple #[.int .i64 0, .int .i64 1]) ∧ w = w' := by
  go_enter Tryz.func95, Tryz.ntmps95
  go_wp2
  go_ret2
  exact ⟨rfl, rfl⟩
theorem an128 : ∀ x : Nat, x < 256 → bits .andNot .u8 (x : Int) 128 = ((x % 128 : Nat) : Int) := by decide +kernel
theorem bo64 (a b : Nat) (ha : a < 18446744073709551616) (hb : b < 18446744073709551616) : bits .or .u64 (a : Int) (b : Int) = ((a ||| b : Nat) : Int) := by
  have hx : a ||| b < 2 ^ 64 := Nat.or_lt_two_pow (by omega) (by omega)
  show IntKind.u64.wrap ((BitVec.ofInt 64 (a : Int) ||| BitVec.ofInt 64 (b : Int)).toNat : Int) = _
  rw [BitVec.toNat_or, ofInt_nat 64 a (by omega), ofInt_nat 64 b (by omega), IntKind.wrap_u64]
  omega
theorem wrap_nat (q : Nat) (h : q < 18446744073709551616) : IntKind.u64.wrap (q : Int) = (q : Int) := by rw [IntKind.wrap_u64]; omega
theorem step_bits (a k x : Nat) (ha : a < 2 ^ (7 * k)) (hx : x < 256) (hk : k ≤ 9) (h9 : k = 9 → x ≤ 1) :
    bits .or .u64 (a : Int) (IntKind.u64.wrap (IntKind.u64.wrap (bits .andNot .u8 (x : Int) 128) * 2 ^ (7 * k))) = ((a + x % 128 * 2 ^ (7 * k) : Nat) : Int) := by
  have hp : x % 128 * 2 ^ (7 * k) < 18446744073709551616 := by
    by_cases e : k = 9
    · subst e
      have := h9 rfl
      have : x % 128 ≤ 1 := by omega
      have := Nat.mul_le_mul_right (2 ^ (7 * 9)) this
      have e63 : 2 ^ (7 * 9) = 9223372036854775808 := by decide
      omega
    · have h2 : 2 ^ (7 * k) ≤ 2 ^ 56 := Nat.pow_le_pow_right (by omega) (by omega)
      have e56 : 2 ^ 56 = 72057594037927936 := by decide
      have := Nat.mul_le_mul (show x % 128 ≤ 127 by omega) h2
      omega
  have ha2 : a < 18446744073709551616 := Nat.lt_of_lt_of_le ha (Nat.le_trans (Nat.pow_le_pow_right (n := 2) (by omega) (show 7 * k ≤ 64 by omega)) (by decide))
  rw [an128 x hx, wrap_nat _ (by omega), show (2 : Int) ^ (7 * k) = ((2 ^ (7 * k) : Nat) : Int) by simp, ← Int.natCast_mul, wrap_nat _ hp, bo64 _ _ ha2 hp, Nat.or_comm, or_add _ _ _ ha, Nat.add_comm]
theorem rdF_at {l : List UInt8} {k x a : Nat} (hk : k < l.length) (hx : l[k].toNat = x) : rdF a k (l.drop k) =
    (if k = 10 ∨ (k = 9 ∧ 1 < x) then (if l.drop (k + 1) = [] ∧ 128 ≤ x ∧ k < 10 then 4 else 3, 0, 0)
    else if x < 128 ∧ x = 0 ∧ 0 < k then (3, 0, 0)
    else if x < 128 then (0, a + x * 2 ^ (7 * k), k + 1)
    else rdF (a + (x - 128) * 2 ^ (7 * k)) (k + 1) (l.drop (k + 1))) := by
  rw [List.drop_eq_getElem_cons hk, rdF, hx]
theorem rest_set {w : World} {g B b o n c : Nat} {l : List UInt8} {k q d : Nat} (hb : Blk w g 111 #[.slice (some ⟨b, o, none⟩) n c, .int .i64 ((0 : Nat) : Int)]) (hr : RdB w (some ⟨b, o, none⟩) l.length l)
    (hA : ∀ j, fp (some (⟨b, o, none⟩ : Addr)) j → j = B) (hB : g ≠ B) (hl : l.length = k + 1 + q) (hqd : q ≤ d) (hc : k + 1 + d ≤ 9223372036854775807) (A' : Option Addr) (m c' : Nat) (h1 : A' = some ⟨b, o, none⟩ ∧ d = 0 ∨ A' = some ⟨b, o + (k + 1), none⟩) (h2 : m = q) (h3 : c' = d) :
    Rdr (w.setCell ⟨g, 0, none⟩ (.slice A' m c')) g B (l.drop (k + 1)) 0 := by
  subst h2 h3
  have hlt : ∀ j, fp A' j → j = B := by
    rintro j ⟨a, ha, rfl⟩
    rcases h1 with ⟨h, _⟩ | h <;> (rw [h] at ha; cases ha; exact hA _ ⟨_, rfl, rfl⟩)
  have h4 : RdB w A' m (l.drop (k + 1)) := by
    rcases h1 with ⟨rfl, h0⟩ | rfl
    · have : m = 0 := by omega
      subst this
      rw [List.drop_eq_nil_of_le (by omega)]
      exact ⟨by simp [bvs], fun h => by omega⟩
    · have := rdb_drop hr (k := k + 1) (c := l.length + 1) (by omega) (by omega)
      rw [if_neg (by omega)] at this
      simp only [Option.map_some] at this
      have e : (⟨b, o, none⟩ : Addr).add (k + 1) = ⟨b, o + (k + 1), none⟩ := by unfold Addr.add; rw [if_neg (by omega)]
      rw [e, show l.length - (k + 1) = m by omega] at this
      exact this
  refine ⟨A', m, c', hb.set_ 0 _, Rd.mod h4 ((Mod.refl (only g) w).set_only 0 _) ?_, hqd, by omega, hlt, hB⟩
  intro j hj hg
  exact hB (hg ▸ hlt j hj)
def RnRel (l : List UInt8) (k a : Nat) : Prop := k ≤ l.length ∧ k ≤ 9 ∧ a < 2 ^ (7 * k) ∧ rdF a k (l.drop k) = rdNum l
set_option maxRecDepth 100000 in
set_option maxHeartbeats 2000000 in
theorem rnum_ok (w : World) (g B e : Nat) (l : List UInt8) (h : Rdr w g B l e) : Calls Tryz.prog 95 #[.pointer (some ⟨g, 0, none⟩)] w (RPost w g B (rn l e)) := by
  have hall := Lib.hid h
  obtain ⟨A, n, c, hb, hr, hnc, hc, hA, hB⟩ := h
  obtain ⟨h1, h2, h3, h4⟩ := hb.two
  have hl := hr.len
  subst hl
  replace hr := Lib.hid hr
  replace hb := Lib.hid hb
  replace hA := Lib.hid hA
  by_cases he : e = 0
  · subst he
    go_enter Tryz.func95, Tryz.ntmps95
    go_wp2_with fail
    go_loop [4, 24] (fun m i => ∃ k a : Nat, i = .int .i64 (k : Int) ∧ m = .int .u64 (a : Int) ∧ RnRel l k a) (fun _ i => l.length - (intOf i).toNat)
    case atStart => exact ⟨0, 0, rfl, rfl, by omega, by omega, by simp, by simp [rdNum]⟩
    case round =>
      obtain ⟨k, a, rfl, rfl, hk, hk9, ha, hrd⟩ := hrel
      replace ha := Lib.hid ha
      replace hrd := Lib.hid hrd
      by_cases hlt : k < l.length
      · obtain ⟨b, o, rfl, hcell⟩ := rdb_form hr.out (by omega)
        have hx := hcell k hlt
        clear hcell
        have hx8 := l[k].toNat_lt
        have hst := Lib.hid (rdF_at (a := a) hlt rfl)
        generalize l[k].toNat = x at *
        by_cases hbad : k = 9 ∧ 1 < x
        · obtain ⟨rfl, hx1⟩ := hbad
          have e3 : Hid (rn l 0 = (0, lng l.length 9 x, [])) := by
            have := hst.out
            rw [if_pos (.inr ⟨rfl, hx1⟩), hrd.out] at this
            refine Lib.hid ?_
            unfold rn
            rw [if_neg (by omega), this]
            have e4 : l.drop (9 + 1) = [] ↔ 9 + 1 = l.length := by
              rw [List.drop_eq_nil_iff]; omega
            simp only [e4, lng]
            split <;> simp
          go_wp2_with fail
          refine (long_ok _ g b o l.length c 9 x _ hb.out hlt (by omega) hx).mono ?_
          rintro en w1 ⟨rfl, rfl⟩
          go_wp2_with fail
          refine (fail_ok _ g B _ _ _ hb.out hB).mono ?_
          rintro en w1 ⟨rfl, hR, hm⟩
          replace hR := Lib.hid hR
          replace hm := Lib.hid hm
          go_wp2_with fail
          go_ret2
          rw [e3.out]
          exact ⟨rfl, hR.out, hm.out⟩
        · have hn10 : ¬ (k = 10 ∨ (k = 9 ∧ 1 < x)) := by omega
          have hst2 := hst.out
          rw [if_neg hn10, hrd.out] at hst2
          have hbits := step_bits a k x ha.out hx8 hk9 (by omega)
          have k1 : ((k : Int) == 10) = false := by simp; omega
          have k2 : (((k : Int) == 9) && decide (1 < x)) = false := by simp; omega
          by_cases h0 : x = 0 ∧ 0 < k
          · obtain ⟨rfl, hk0⟩ := h0
            have e3 : Hid (rn l 0 = (0, 3, [])) := by
              rw [if_pos ⟨by omega, rfl, hk0⟩] at hst2
              refine Lib.hid ?_
              unfold rn
              rw [if_neg (by omega), hst2]
              simp
            clear hst2 hbits
            by_cases k9 : k = 9
            · subst k9
              go_wp2_with fail
              refine (fail_ok _ g B 3 _ _ hb.out hB).mono ?_
              rintro en w1 ⟨rfl, hR, hm⟩
              replace hR := Lib.hid hR
              replace hm := Lib.hid hm
              go_wp2_with fail
              go_ret2
              rw [e3.out]
              exact ⟨rfl, hR.out, hm.out⟩
            · have k9' : ((k : Int) == 9) = false := by simp; omega
              go_wp2_with fail
              refine (fail_ok _ g B 3 _ _ hb.out hB).mono ?_
              rintro en w1 ⟨rfl, hR, hm⟩
              replace hR := Lib.hid hR
              replace hm := Lib.hid hm
              go_wp2_with fail
              go_ret2
              rw [e3.out]
              exact ⟨rfl, hR.out, hm.out⟩
          · rw [if_neg (by omega)] at hst2
            by_cases hlast : x < 128
            · rw [if_pos hlast] at hst2
              have hxx : x % 128 = x := by omega
              obtain ⟨y, hy⟩ : ∃ y, y = a + x % 128 * 2 ^ (7 * k) := ⟨_, rfl⟩
              rw [← hy] at hbits
              rw [hxx] at hy
              rw [← hy] at hst2
              have hy64 : y < 18446744073709551616 := (rdNum_once hst2).2.2.2
              have e3 : Hid (rn l 0 = (unzig y, 0, l.drop (k + 1))) := by
                refine Lib.hid ?_
                unfold rn
                rw [if_neg (by omega), hst2]
                simp
              clear hxx
              obtain ⟨q, hq⟩ : ∃ q, l.length = k + 1 + q := ⟨l.length - (k + 1), by omega⟩
              obtain ⟨d, rfl⟩ : ∃ d, c = k + 1 + d := ⟨c - (k + 1), by omega⟩
              have hfin := Lib.hid (@rest_set w g B b o _ _ l k q d hb.out hr.out hA.out hB (by omega) (by omega) (by omega))
              replace hst2 := Lib.hid hst2
              replace hy := Lib.hid hy
              replace hy64 := Lib.hid hy64
              rw [hq] at h1
              have hqd : q ≤ d := by omega
              replace hq := Lib.hid hq
              by_cases x0 : x = 0
              · subst x0
                have hk0 : k = 0 := by omega
                have hk1 : decide ((0 : Int) < (k : Int)) = false := by simp; omega
                have k3 : ((k : Int) == 9) = false := by simp; omega
                rw [show (((0 : Nat) : Int)) = 0 from rfl] at hbits hx
                replace hk0 := Lib.hid hk0
                by_cases d0 : d = 0
                · subst d0
                  go_wp2_with fail
                  refine (unfold_ok _ y hy64.out).mono ?_
                  rintro en w2 ⟨rfl, rfl⟩
                  go_wp2_with fail
                  go_ret2
                  rw [e3.out]
                  exact ⟨rfl, hfin.out _ _ _ (.inl (by simp)) (by omega) (by omega), (Mod.refl _ w).set_only 0 _⟩
                · go_wp2_with fail
                  refine (unfold_ok _ y hy64.out).mono ?_
                  rintro en w2 ⟨rfl, rfl⟩
                  go_wp2_with fail
                  go_ret2
                  rw [e3.out]
                  exact ⟨rfl, hfin.out _ _ _ (.inr rfl) (by omega) (by omega), (Mod.refl _ w).set_only 0 _⟩
              · have x1 : ((x : Int) == 0) = false := by simp; omega
                by_cases k9 : k = 9
                · subst k9
                  simp only [Nat.reduceMul, Nat.reduceAdd, Int.reducePow] at hbits h1
                  by_cases d0 : d = 0
                  · subst d0
                    go_wp2_with fail
                    refine (unfold_ok _ y hy64.out).mono ?_
                    rintro en w2 ⟨rfl, rfl⟩
                    go_wp2_with fail
                    go_ret2
                    rw [e3.out]
                    exact ⟨rfl, hfin.out _ _ _ (.inl (by simp)) (by omega) (by omega), (Mod.refl _ w).set_only 0 _⟩
                  · go_wp2_with fail
                    refine (unfold_ok _ y hy64.out).mono ?_
                    rintro en w2 ⟨rfl, rfl⟩
                    go_wp2_with fail
                    go_ret2
                    rw [e3.out]
                    exact ⟨rfl, hfin.out _ _ _ (.inr rfl) (by omega) (by omega), (Mod.refl _ w).set_only 0 _⟩
                · have k3 : ((k : Int) == 9) = false := by simp; omega
                  by_cases d0 : d = 0
                  · subst d0
                    go_wp2_with fail
                    refine (unfold_ok _ y hy64.out).mono ?_
                    rintro en w2 ⟨rfl, rfl⟩
                    go_wp2_with fail
                    go_ret2
                    rw [e3.out]
                    exact ⟨rfl, hfin.out _ _ _ (.inl (by simp)) (by omega) (by omega), (Mod.refl _ w).set_only 0 _⟩
                  · go_wp2_with fail
                    refine (unfold_ok _ y hy64.out).mono ?_
                    rintro en w2 ⟨rfl, rfl⟩
                    go_wp2_with fail
                    go_ret2
                    rw [e3.out]
                    exact ⟨rfl, hfin.out _ _ _ (.inr rfl) (by omega) (by omega), (Mod.refl _ w).set_only 0 _⟩
            · rw [if_neg hlast] at hst2
              have g9 : k < 9 := by omega
              have k3 : ((k : Int) == 9) = false := by simp; omega
              have hnx : Hid (RnRel l (k + 1) (a + x % 128 * 2 ^ (7 * k))) := by
                refine Lib.hid ⟨by omega, by omega, ?_, ?_⟩
                · have := ha.out
                  have e : 2 ^ (7 * (k + 1)) = 128 * 2 ^ (7 * k) := by rw [show 7 * (k + 1) = 7 + 7 * k by omega, Nat.pow_add]
                  have := Nat.mul_le_mul_right (2 ^ (7 * k)) (show x % 128 ≤ 127 by omega)
                  omega
                · rw [show x % 128 = x - 128 by omega]; exact hst2.symm
              replace hst2 := Lib.hid hst2
              go_wp2_with fail
              refine ⟨⟨k + 1, _, by go_num, by simp, hnx.out⟩, ?_⟩
              simp [intOf]; omega
      · have e3 : Hid (rn l 0 = (0, 4, [])) := by
          have := hrd.out
          rw [List.drop_eq_nil_of_le (by omega), rdF] at this
          refine Lib.hid ?_
          unfold rn
          rw [if_neg (by omega), ← this]
          simp
        go_wp2_with fail
        refine (fail_ok _ g B 4 _ _ hb.out hB).mono ?_
        rintro en w1 ⟨rfl, hR, hm⟩
        replace hR := Lib.hid hR
        replace hm := Lib.hid hm
        go_wp2_with fail
        go_ret2
        rw [e3.out]
        exact ⟨rfl, hR.out, hm.out⟩
  · have he1 : ((e : Int) != 0) = true := by simp; omega
    go_enter Tryz.func95, Tryz.ntmps95
    go_wp2_with (go_quiet (fail))
    go_ret2
    have : rn l e = (0, e, l) := by simp [rn, he]
    rw [this]
    exact ⟨rfl, hall.out.mod0 ((Mod.refl none_ w).drewN _), (Mod.refl _ w).drewN _⟩
end Go.Proofs.YtdnbclhidpkpgaaGreat
