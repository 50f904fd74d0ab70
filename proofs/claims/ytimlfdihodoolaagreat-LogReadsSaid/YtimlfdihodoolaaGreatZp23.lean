import Derived.Test.YtimlfdihodoolaaGreatZp20
import Derived.Test.YtimlfdihodoolaaGreatZp9
import Derived.Test.YtimlfdihodoolaaGreatZp22
/-
  The reference's log.Bytes. No condition.
-/
namespace Go.Proofs.YtimlfdihodoolaaGreat
set_option linter.unusedVariables false
set_option linter.unusedSimpArgs false
open Go.RowKit
theorem head15 (r : Rc) : nb r.i.r ++ nb r.i.n ++ nb r.bal ++ nb r.st ++ nb r.by_ = headB r := by unfold headB; simp only [List.append_assoc]
theorem dep15 {ds : List Is} {j : Nat} {d : Is} (h : ds[j]? = some d) (H : List UInt8) : H ++ (ds.take j).flatMap isB ++ nb d.r ++ nb d.n = H ++ (ds.take (j + 1)).flatMap isB := by
  rw [List.take_add_one, h]; simp [isB]
theorem rec15a (r : Rc) (hs : r.st ≠ 0) (hn : r.e.none = true) : headB r ++ nb 1 ++ nb (r.e.deps.length : Int) ++ r.e.deps.flatMap isB = recB r := by
  unfold recB entB; rw [if_neg hs, hn]; simp
theorem rec15b (r : Rc) (hs : r.st ≠ 0) (hn : r.e.none = false) : headB r ++ nb 0 ++ txtB (orderB r.e.o) ++ nb (r.e.deps.length : Int) ++ r.e.deps.flatMap isB = recB r := by
  unfold recB entB; rw [if_neg hs, hn]; simp
def rcS (g q : Nat) (r : Rc) (D : SV) (W : World) : Prop :=
  W.cell? ⟨g, 0, none⟩ = some (.int .i64 r.i.r) ∧ W.cell? ⟨g, 1, none⟩ = some (.int .i64 r.i.n) ∧ W.cell? ⟨q, 0, none⟩ = some (.int .i64 r.bal) ∧ W.cell? ⟨q, 1, none⟩ = some (.int .i64 r.st) ∧ W.cell? ⟨q, 2, none⟩ = some (.int .i64 r.by_) ∧ W.cell? ⟨q, 13, none⟩ = some (.bool r.e.none) ∧ W.cell? ⟨q, 14, none⟩ = some (.slice D.a D.n D.c)
set_option maxRecDepth 100000 in
set_option maxHeartbeats 8000000 in
theorem r15bytes_ok (w : World) (r : Rc) (L D : SV) (hE : EnM w r.e L D) (hL : L.n ≤ 140737488355328) (hD : D.n ≤ 140737488355328) (hz : ∀ l ∈ r.e.o.legs, (txt l.n).size ≤ maxLen) (ta : (txt r.e.o.acct).size ≤ maxLen) (tp : (txt r.e.o.peer).size ≤ maxLen) (hn : numsE r.e) :
    Calls Tryz.prog 25 #[.agg #[.int .i64 r.i.r, .int .i64 r.i.n, .int .i64 r.bal, .int .i64 r.st, .int .i64 r.by_, .int .i64 r.e.o.c, .int .i64 r.e.o.s, .int .i64 r.e.o.k, .string (txt r.e.o.acct), .string (txt r.e.o.peer), .int .i64 r.e.o.sum, .slice L.a L.n L.c, .int .i64 r.e.o.per, .int .i64 r.e.o.hold, .string (txt r.e.o.note), .bool r.e.none, .slice D.a D.n D.c]] w (BPost w (rightR r) (recB r)) := by
  have hB := Blk.new w 37 #[.int .i64 r.i.r, .int .i64 r.i.n, .int .i64 r.bal, .int .i64 r.st, .int .i64 r.by_, .int .i64 r.e.o.c, .int .i64 r.e.o.s, .int .i64 r.e.o.k, .string (txt r.e.o.acct), .string (txt r.e.o.peer), .int .i64 r.e.o.sum, .slice L.a L.n L.c, .int .i64 r.e.o.per, .int .i64 r.e.o.hold, .string (txt r.e.o.note), .bool r.e.none, .slice D.a D.n D.c]
  have hm0 := (Mod.refl none_ w).alloc (.cells #[.int .i64 r.i.r, .int .i64 r.i.n, .int .i64 r.bal, .int .i64 r.st, .int .i64 r.by_, .int .i64 r.e.o.c, .int .i64 r.e.o.s, .int .i64 r.e.o.k, .string (txt r.e.o.acct), .string (txt r.e.o.peer), .int .i64 r.e.o.sum, .slice L.a L.n L.c, .int .i64 r.e.o.per, .int .i64 r.e.o.hold, .string (txt r.e.o.note), .bool r.e.none, .slice D.a D.n D.c] 37)
  have kR := Lib.hid (r15right_ok _ r L D (hE.mod0 hm0) hL hD hz ta tp)
  have kO := Lib.hid (fun W (h : Mod none_ w W) => r6bytes_ok W r.e.o L (hE.od.mod0 h) hL hz ta tp hn)
  have hrdD := Lib.hid hE.rd
  have hdl := Lib.hid hE.rd.len
  replace hB := Lib.hid hB
  replace hm0 := Lib.hid hm0
  replace hz := Lib.hid hz
  replace ta := Lib.hid ta
  replace tp := Lib.hid tp
  go_enter Tryz.func25, Tryz.ntmps25
  go_wp2_with (refine wpList_load_row rfl 37 (.tmp 1) rfl w.heap.size rfl _ _ _ _ hB.out Tryz.underlying37 rfl record_size ?_)
  with_reducible refine kR.out.mono ?_
  rintro e wa ⟨rfl, hm1⟩
  dsimp only
  cases hr : rightR r with
  | false =>
    replace hr := Lib.hid hr
    replace hm1 := Lib.hid hm1
    go_wp2_with fail
    go_ret2
    exact .inr ⟨hr.out, rfl, hm0.out.trans hm1.out⟩
  | true =>
    have hok := rightR_okRc hr hn
    obtain ⟨⟨⟨k1, k1'⟩, ⟨k2, k2'⟩⟩, ⟨k3, k3'⟩, ⟨k4, k4'⟩, ⟨k5, k5'⟩, k6⟩ := hok
    have hB1 := hB.out.mod hm1 (fun h => h)
    have hBs := Blk.new wa 35 #[.int .i64 r.bal, .int .i64 r.st, .int .i64 r.by_, .int .i64 r.e.o.c, .int .i64 r.e.o.s, .int .i64 r.e.o.k, .string (txt r.e.o.acct), .string (txt r.e.o.peer), .int .i64 r.e.o.sum, .slice L.a L.n L.c, .int .i64 r.e.o.per, .int .i64 r.e.o.hold, .string (txt r.e.o.note), .bool r.e.none, .slice D.a D.n D.c]
    have hB2 := hB1.alloc (.cells #[.int .i64 r.bal, .int .i64 r.st, .int .i64 r.by_, .int .i64 r.e.o.c, .int .i64 r.e.o.s, .int .i64 r.e.o.k, .string (txt r.e.o.acct), .string (txt r.e.o.peer), .int .i64 r.e.o.sum, .slice L.a L.n L.c, .int .i64 r.e.o.per, .int .i64 r.e.o.hold, .string (txt r.e.o.note), .bool r.e.none, .slice D.a D.n D.c] 35)
    have hmm := Lib.hid ((hm0.out.trans hm1).alloc (.cells #[.int .i64 r.bal, .int .i64 r.st, .int .i64 r.by_, .int .i64 r.e.o.c, .int .i64 r.e.o.s, .int .i64 r.e.o.k, .string (txt r.e.o.acct), .string (txt r.e.o.peer), .int .i64 r.e.o.sum, .slice L.a L.n L.c, .int .i64 r.e.o.per, .int .i64 r.e.o.hold, .string (txt r.e.o.note), .bool r.e.none, .slice D.a D.n D.c] 35))
    replace hr := Lib.hid hr
    replace hm1 := Lib.hid hm1
    replace hB1 := Lib.hid hB1
    replace hBs := Lib.hid hBs
    replace hB2 := Lib.hid hB2
    replace k6 := Lib.hid k6
    replace hn := Lib.hid hn
    clear hB
    go_wp2_with (refine wpList_load_blk rfl 35 (.tmp 12) rfl w.heap.size 2 rfl hB1.out [.int .i64 r.bal, .int .i64 r.st, .int .i64 r.by_, .int .i64 r.e.o.c, .int .i64 r.e.o.s, .int .i64 r.e.o.k, .string (txt r.e.o.acct), .string (txt r.e.o.peer), .int .i64 r.e.o.sum, .slice L.a L.n L.c, .int .i64 r.e.o.per, .int .i64 r.e.o.hold, .string (txt r.e.o.note), .bool r.e.none, .slice D.a D.n D.c] rfl Tryz.underlying35 rfl slot_size ?_)
    obtain ⟨w1, hw1⟩ : ∃ w1, w1 = wa.alloc (.cells #[.int .i64 r.bal, .int .i64 r.st, .int .i64 r.by_, .int .i64 r.e.o.c, .int .i64 r.e.o.s, .int .i64 r.e.o.k, .string (txt r.e.o.acct), .string (txt r.e.o.peer), .int .i64 r.e.o.sum, .slice L.a L.n L.c, .int .i64 r.e.o.per, .int .i64 r.e.o.hold, .string (txt r.e.o.note), .bool r.e.none, .slice D.a D.n D.c] 35) := ⟨_, rfl⟩
    rw [← hw1] at hBs hB2 hmm ⊢
    generalize hq : wa.heap.size = q at *
    have kC := Lib.hid (fun W (h : Mod none_ w1 W) => (⟨(hB2.out.mod h (fun h => h)).cell_ rfl, (hB2.out.mod h (fun h => h)).cell_ rfl, (hBs.out.mod h (fun h => h)).cell_ rfl, (hBs.out.mod h (fun h => h)).cell_ rfl, (hBs.out.mod h (fun h => h)).cell_ rfl, (hBs.out.mod h (fun h => h)).cell_ rfl, (hBs.out.mod h (fun h => h)).cell_ rfl⟩ : rcS w.heap.size q r D W))
    unfold rcS at kC
    clear hB1 hB2 hm1 hm0
    replace hw1 := Lib.hid hw1
    replace hq := Lib.hid hq
    have hM0 := Lib.hid ((Mod.refl none_ w1).drew)
    refine wp_region_held_drew (S := fun W => Mod none_ w1 W) (by kernel_rfl) hM0.out (fun hHeld => ?_)
    refine wpAnyH_take (i := 0) (v := ?_) rfl (by kernel_rfl) (by kernel_rfl) (by kernel_rfl) (fun _ _ _ h => h) (Or.inl ⟨by rfl, ?_⟩) (by assumption) ?_
    rotate_left
    · intro W hSw; (try dsimp only at hSw); go_simp; (try with_reducible rfl)
    try simp only [Act.put, List.getElem_toArray, List.getElem_cons_zero, List.getElem_cons_succ, List.setIfInBounds_toArray, List.set_cons_zero, List.set_cons_succ]
    refine wpAnyH_take (i := 1) (v := ?_) rfl (by kernel_rfl) (by kernel_rfl) (by kernel_rfl) (fun _ _ _ h => h) (Or.inl ⟨by rfl, ?_⟩) (by assumption) ?_
    rotate_left
    · intro W hSw; (try dsimp only at hSw); go_simp; (try with_reducible rfl)
    try simp only [Act.put, List.getElem_toArray, List.getElem_cons_zero, List.getElem_cons_succ, List.setIfInBounds_toArray, List.set_cons_zero, List.set_cons_succ]
    refine wpAnyH_take (i := 4) (v := ?_) rfl (by kernel_rfl) (by kernel_rfl) (by kernel_rfl) (fun _ _ _ h => h) (Or.inl ⟨by rfl, ?_⟩) (by assumption) ?_
    rotate_left
    · intro W hSw; (try dsimp only at hSw); go_simp; (try with_reducible rfl)
    try simp only [Act.put, List.getElem_toArray, List.getElem_cons_zero, List.getElem_cons_succ, List.setIfInBounds_toArray, List.set_cons_zero, List.set_cons_succ]
    refine wpAnyH_take (i := 5) (v := ?_) rfl (by kernel_rfl) (by kernel_rfl) (by kernel_rfl) (fun _ _ _ h => h) (Or.inl ⟨by rfl, ?_⟩) (by assumption) ?_
    rotate_left
    · intro W hSw; (try dsimp only at hSw); go_simp; (try with_reducible rfl)
    try simp only [Act.put, List.getElem_toArray, List.getElem_cons_zero, List.getElem_cons_succ, List.setIfInBounds_toArray, List.set_cons_zero, List.set_cons_succ]
    refine wpAnyH_take (i := 9) (v := ?_) rfl (by kernel_rfl) (by kernel_rfl) (by kernel_rfl) (fun _ _ _ h => h) (Or.inl ⟨by rfl, ?_⟩) (by assumption) ?_
    rotate_left
    · intro W hSw; (try dsimp only at hSw); go_simp; (try with_reducible rfl)
    try simp only [Act.put, List.getElem_toArray, List.getElem_cons_zero, List.getElem_cons_succ, List.setIfInBounds_toArray, List.set_cons_zero, List.set_cons_succ]
    refine wpAnyH_take (i := 2) (v := ?_) rfl (by kernel_rfl) (by kernel_rfl) (by kernel_rfl) (fun _ _ _ h => h) (Or.inl ⟨by rfl, ?_⟩) (by assumption) ?_
    rotate_left
    · intro W hSw; obtain ⟨p0, p1, s0, s1, s2, s13, s14⟩ := kC.out W hSw; go_simp; (try with_reducible rfl)
    try simp only [Act.put, List.getElem_toArray, List.getElem_cons_zero, List.getElem_cons_succ, List.setIfInBounds_toArray, List.set_cons_zero, List.set_cons_succ]
    refine wpAnyH_take (i := 6) (v := ?_) rfl (by kernel_rfl) (by kernel_rfl) (by kernel_rfl) (fun _ _ _ h => h) (Or.inl ⟨by rfl, ?_⟩) (by assumption) ?_
    rotate_left
    · intro W hSw; obtain ⟨p0, p1, s0, s1, s2, s13, s14⟩ := kC.out W hSw; go_simp; (try with_reducible rfl)
    try simp only [Act.put, List.getElem_toArray, List.getElem_cons_zero, List.getElem_cons_succ, List.setIfInBounds_toArray, List.set_cons_zero, List.set_cons_succ]
    refine wpAnyH_take (i := 10) (v := ?_) rfl (by kernel_rfl) (by kernel_rfl) (by kernel_rfl) (fun _ _ _ h => h) (Or.inl ⟨by rfl, ?_⟩) (by assumption) ?_
    rotate_left
    · intro W hSw; obtain ⟨p0, p1, s0, s1, s2, s13, s14⟩ := kC.out W hSw; go_simp; (try with_reducible rfl)
    try simp only [Act.put, List.getElem_toArray, List.getElem_cons_zero, List.getElem_cons_succ, List.setIfInBounds_toArray, List.set_cons_zero, List.set_cons_succ]
    refine wpAnyH_ready (rs := [3]) (by kernel_rfl) (by simp) ?_
    refine AllReadyH.cons rfl (fun K hK => ?_) AllReadyH.nil
    go_simp
    (with_reducible refine (acc_call 10 (r15num_ok _ r.i.r (in64_mk (by omega) (by omega))) hM0.out (nb_len _)).mono ?_); rintro e17 w17 ⟨A17, n17, c17, rfl, z17, hm17, hM17⟩; dsimp only
    clear hm17
    replace z17 := Lib.hid z17
    replace hM17 := Lib.hid hM17
    go_wp2_with fail
    refine hK.out _ _ (hM17.out) (fun hHeld => ?_)
    clear hK K
    try simp only [Act.put, List.getElem_toArray, List.getElem_cons_zero, List.getElem_cons_succ, List.setIfInBounds_toArray, List.set_cons_zero, List.set_cons_succ]
    refine wpAnyH_ready (rs := [7]) (by kernel_rfl) (by simp) ?_
    refine AllReadyH.cons rfl (fun K hK => ?_) AllReadyH.nil
    go_simp
    (with_reducible refine (acc_call 10 (r15num_ok _ r.i.n (in64_mk (by omega) (by omega))) hM17.out (nb_len _)).mono ?_); rintro e21 w21 ⟨A21, n21, c21, rfl, z21, hm21, hM21⟩; dsimp only
    replace z17 := Lib.hid (z17.out.mod0 hm21)
    clear hm21
    replace z21 := Lib.hid z21
    replace hM21 := Lib.hid hM21
    go_wp2_with fail
    refine hK.out _ _ (hM21.out) (fun hHeld => ?_)
    clear hK K
    try simp only [Act.put, List.getElem_toArray, List.getElem_cons_zero, List.getElem_cons_succ, List.setIfInBounds_toArray, List.set_cons_zero, List.set_cons_succ]
    refine wpAnyH_ready (rs := [8]) (by kernel_rfl) (by simp) ?_
    refine AllReadyH.cons rfl (fun K hK => ?_) AllReadyH.nil
    refine step_acc rfl (.tmp 17) (.tmp 21) rfl hM21.out rfl z17.out rfl z21.out (by omega) ?_
    intro A22 n22 c22 w22 z22 hM22 _ _
    replace z22 := Lib.hid z22
    replace hM22 := Lib.hid hM22
    clear z17 z21
    refine hK.out _ _ (hM22.out) (fun hHeld => ?_)
    clear hK K
    try simp only [Act.put, List.getElem_toArray, List.getElem_cons_zero, List.getElem_cons_succ, List.setIfInBounds_toArray, List.set_cons_zero, List.set_cons_succ]
    refine wpAnyH_ready (rs := [11]) (by kernel_rfl) (by simp) ?_
    refine AllReadyH.cons rfl (fun K hK => ?_) AllReadyH.nil
    go_simp
    (with_reducible refine (acc_call 10 (r15num_ok _ r.bal (in64_mk (by omega) (by omega))) hM22.out (nb_len _)).mono ?_); rintro e25 w25 ⟨A25, n25, c25, rfl, z25, hm25, hM25⟩; dsimp only
    replace z22 := Lib.hid (z22.out.mod0 hm25)
    clear hm25
    replace z25 := Lib.hid z25
    replace hM25 := Lib.hid hM25
    go_wp2_with fail
    refine hK.out _ _ (hM25.out) (fun hHeld => ?_)
    clear hK K
    try simp only [Act.put, List.getElem_toArray, List.getElem_cons_zero, List.getElem_cons_succ, List.setIfInBounds_toArray, List.set_cons_zero, List.set_cons_succ]
    refine wpAnyH_ready (rs := [12]) (by kernel_rfl) (by simp) ?_
    refine AllReadyH.cons rfl (fun K hK => ?_) AllReadyH.nil
    refine step_acc rfl (.tmp 22) (.tmp 25) rfl hM25.out rfl z22.out rfl z25.out (by omega) ?_
    intro A26 n26 c26 w26 z26 hM26 _ _
    replace z26 := Lib.hid z26
    replace hM26 := Lib.hid hM26
    clear z22 z25
    refine hK.out _ _ (hM26.out) (fun hHeld => ?_)
    clear hK K
    try simp only [Act.put, List.getElem_toArray, List.getElem_cons_zero, List.getElem_cons_succ, List.setIfInBounds_toArray, List.set_cons_zero, List.set_cons_succ]
    refine wpAnyH_take (i := 13) (v := ?_) rfl (by kernel_rfl) (by kernel_rfl) (by kernel_rfl) (fun _ _ _ h => h) (Or.inl ⟨by rfl, ?_⟩) (by assumption) ?_
    rotate_left
    · intro W hSw; (try dsimp only at hSw); go_simp; (try with_reducible rfl)
    try simp only [Act.put, List.getElem_toArray, List.getElem_cons_zero, List.getElem_cons_succ, List.setIfInBounds_toArray, List.set_cons_zero, List.set_cons_succ]
    refine wpAnyH_done (by kernel_rfl) ?_ _
    clear hHeld hM0 hM17 hM21 hM22 hM25
    go_wp2_with fail
    have hMa := Lib.hid (hM26.out.drew)
    have za := Lib.hid (z26.out.mod0 (Mod.refl none_ _).drew)
    clear z26
    refine wp_region_held_drew (S := fun W => Mod none_ w1 W) (by kernel_rfl) hMa.out (fun hHeld => ?_)
    refine wpAnyH_take (i := 0) (v := ?_) rfl (by kernel_rfl) (by kernel_rfl) (by kernel_rfl) (fun _ _ _ h => h) (Or.inl ⟨by rfl, ?_⟩) (by assumption) ?_
    rotate_left
    · intro W hSw; (try dsimp only at hSw); go_simp; (try with_reducible rfl)
    try simp only [Act.put, List.getElem_toArray, List.getElem_cons_zero, List.getElem_cons_succ, List.setIfInBounds_toArray, List.set_cons_zero, List.set_cons_succ]
    refine wpAnyH_take (i := 1) (v := ?_) rfl (by kernel_rfl) (by kernel_rfl) (by kernel_rfl) (fun _ _ _ h => h) (Or.inl ⟨by rfl, ?_⟩) (by assumption) ?_
    rotate_left
    · intro W hSw; (try dsimp only at hSw); go_simp; (try with_reducible rfl)
    try simp only [Act.put, List.getElem_toArray, List.getElem_cons_zero, List.getElem_cons_succ, List.setIfInBounds_toArray, List.set_cons_zero, List.set_cons_succ]
    refine wpAnyH_take (i := 5) (v := ?_) rfl (by kernel_rfl) (by kernel_rfl) (by kernel_rfl) (fun _ _ _ h => h) (Or.inl ⟨by rfl, ?_⟩) (by assumption) ?_
    rotate_left
    · intro W hSw; (try dsimp only at hSw); go_simp; (try with_reducible rfl)
    try simp only [Act.put, List.getElem_toArray, List.getElem_cons_zero, List.getElem_cons_succ, List.setIfInBounds_toArray, List.set_cons_zero, List.set_cons_succ]
    refine wpAnyH_take (i := 2) (v := ?_) rfl (by kernel_rfl) (by kernel_rfl) (by kernel_rfl) (fun _ _ _ h => h) (Or.inl ⟨by rfl, ?_⟩) (by assumption) ?_
    rotate_left
    · intro W hSw; obtain ⟨p0, p1, s0, s1, s2, s13, s14⟩ := kC.out W hSw; go_simp; (try with_reducible rfl)
    try simp only [Act.put, List.getElem_toArray, List.getElem_cons_zero, List.getElem_cons_succ, List.setIfInBounds_toArray, List.set_cons_zero, List.set_cons_succ]
    refine wpAnyH_take (i := 6) (v := ?_) rfl (by kernel_rfl) (by kernel_rfl) (by kernel_rfl) (fun _ _ _ h => h) (Or.inl ⟨by rfl, ?_⟩) (by assumption) ?_
    rotate_left
    · intro W hSw; obtain ⟨p0, p1, s0, s1, s2, s13, s14⟩ := kC.out W hSw; go_simp; (try with_reducible rfl)
    try simp only [Act.put, List.getElem_toArray, List.getElem_cons_zero, List.getElem_cons_succ, List.setIfInBounds_toArray, List.set_cons_zero, List.set_cons_succ]
    refine wpAnyH_ready (rs := [3]) (by kernel_rfl) (by simp) ?_
    refine AllReadyH.cons rfl (fun K hK => ?_) AllReadyH.nil
    go_simp
    (with_reducible refine (acc_call 10 (r15num_ok _ r.st (in64_mk (by omega) (by omega))) hMa.out (nb_len _)).mono ?_); rintro e30 w30 ⟨A30, n30, c30, rfl, z30, hm30, hM30⟩; dsimp only
    replace za := Lib.hid (za.out.mod0 hm30)
    clear hm30
    replace z30 := Lib.hid z30
    replace hM30 := Lib.hid hM30
    go_wp2_with fail
    refine hK.out _ _ (hM30.out) (fun hHeld => ?_)
    clear hK K
    try simp only [Act.put, List.getElem_toArray, List.getElem_cons_zero, List.getElem_cons_succ, List.setIfInBounds_toArray, List.set_cons_zero, List.set_cons_succ]
    refine wpAnyH_ready (rs := [4]) (by kernel_rfl) (by simp) ?_
    refine AllReadyH.cons rfl (fun K hK => ?_) AllReadyH.nil
    refine step_acc rfl (.tmp 27) (.tmp 30) rfl hM30.out rfl za.out rfl z30.out (by omega) ?_
    intro A31 n31 c31 w31 z31 hM31 _ _
    replace z31 := Lib.hid z31
    replace hM31 := Lib.hid hM31
    clear za z30
    refine hK.out _ _ (hM31.out) (fun hHeld => ?_)
    clear hK K
    try simp only [Act.put, List.getElem_toArray, List.getElem_cons_zero, List.getElem_cons_succ, List.setIfInBounds_toArray, List.set_cons_zero, List.set_cons_succ]
    refine wpAnyH_ready (rs := [7]) (by kernel_rfl) (by simp) ?_
    refine AllReadyH.cons rfl (fun K hK => ?_) AllReadyH.nil
    go_simp
    (with_reducible refine (acc_call 10 (r15num_ok _ r.by_ (in64_mk (by omega) (by omega))) hM31.out (nb_len _)).mono ?_); rintro e34 w34 ⟨A34, n34, c34, rfl, z34, hm34, hM34⟩; dsimp only
    replace z31 := Lib.hid (z31.out.mod0 hm34)
    clear hm34
    replace z34 := Lib.hid z34
    replace hM34 := Lib.hid hM34
    go_wp2_with fail
    refine hK.out _ _ (hM34.out) (fun hHeld => ?_)
    clear hK K
    try simp only [Act.put, List.getElem_toArray, List.getElem_cons_zero, List.getElem_cons_succ, List.setIfInBounds_toArray, List.set_cons_zero, List.set_cons_succ]
    refine wpAnyH_ready (rs := [8]) (by kernel_rfl) (by simp) ?_
    refine AllReadyH.cons rfl (fun K hK => ?_) AllReadyH.nil
    refine step_acc rfl (.tmp 31) (.tmp 34) rfl hM34.out rfl z31.out rfl z34.out (by omega) ?_
    intro A35 n35 c35 w35 z35 hM35 _ _
    replace z35 := Lib.hid z35
    replace hM35 := Lib.hid hM35
    clear z31 z34
    refine hK.out _ _ (hM35.out) (fun hHeld => ?_)
    clear hK K
    try simp only [Act.put, List.getElem_toArray, List.getElem_cons_zero, List.getElem_cons_succ, List.setIfInBounds_toArray, List.set_cons_zero, List.set_cons_succ]
    refine wpAnyH_take (i := 9) (v := ?_) rfl (by kernel_rfl) (by kernel_rfl) (by kernel_rfl) (fun _ _ _ h => h) (Or.inl ⟨by rfl, ?_⟩) (by assumption) ?_
    rotate_left
    · intro W hSw; (try dsimp only at hSw); go_simp; (try with_reducible rfl)
    try simp only [Act.put, List.getElem_toArray, List.getElem_cons_zero, List.getElem_cons_succ, List.setIfInBounds_toArray, List.set_cons_zero, List.set_cons_succ]
    refine wpAnyH_done (by kernel_rfl) ?_ _
    clear hHeld hMa hM26 hM30 hM31 hM34
    have hz5 := z35.out
    rw [head15] at hz5
    replace z35 := Lib.hid hz5
    clear hz5
    obtain ⟨p0, p1, s0, s1, s2, s13, s14⟩ := kC.out w35 hM35.out
    clear p0 p1 s0 s2 s14
    by_cases hs : r.st = 0
    · rw [hs] at s1
      have hz9 := z35.out
      rw [show headB r = recB r by unfold recB; rw [if_pos hs, List.append_nil]] at hz9
      have hlz := hz9.len
      subst hlz
      replace hs := Lib.hid hs
      replace hz9 := Lib.hid hz9
      clear z35
      go_wp2_with fail
      go_ret2
      exact .inl ⟨hr.out, A35, c35, rfl, hz9.out.ow, fun a ha => Nat.le_trans hmm.out.size (hz9.out.fr a ha), hmm.out.trans hM35.out⟩
    · have k6 := k6.out
      rw [if_neg hs] at k6
      obtain ⟨k7, k8, k9⟩ := k6
      have hst2 : (r.st == 0) = false := by simp; exact hs
      have hdk := Lib.hid k9
      have hD100 : D.n ≤ 100 := by rw [← hdl.out]; exact k8
      clear k8 k9
      replace hs := Lib.hid hs
      cases hnn : r.e.none with
      | true =>
        rw [hnn] at s13 k7
        clear k7
        replace hnn := Lib.hid hnn
        go_wp2_with fail
        (with_reducible refine (acc_call 10 (r15num_ok _ 1 (in64_mk (by omega) (by omega))) hM35.out (nb_len _)).mono ?_); rintro e44 w44 ⟨A44, n44, c44, rfl, z44, hm44, hM44⟩; dsimp only
        replace z35 := Lib.hid (z35.out.mod0 hm44)
        clear hm44 s1 s13
        replace z44 := Lib.hid z44
        replace hM44 := Lib.hid hM44
        go_upto_region 12 with (at_builtin; go_loud (refine app_acc rfl (.tmp 43) (.tmp 44) rfl hM44.out rfl z35.out rfl z44.out (by omega) ?_; intro A45 n45 c45 w45 z45 hM45 _; replace z45 := Lib.hid z45; replace hM45 := Lib.hid hM45))
        clear z35 z44
        have s14 : w45.cell? ⟨q, 14, none⟩ = some (.slice D.a D.n D.c) := (kC.out w45 hM45.out).2.2.2.2.2.2
        go_wp2_with fail
        (with_reducible refine (acc_call 10 (r15num_ok _ (D.n : Int) (in64_mk (by omega) (by omega))) hM45.out (nb_len _)).mono ?_); rintro e65 w65 ⟨A65, n65, c65, rfl, z65, hm65, hM65⟩; dsimp only
        replace z45 := Lib.hid (z45.out.mod0 hm65)
        clear hm65 s14
        replace z65 := Lib.hid z65
        replace hM65 := Lib.hid hM65
        go_wp2_with (at_builtin; go_loud (refine app_acc rfl (.tmp 60) (.tmp 65) rfl hM65.out rfl z45.out rfl z65.out (by omega) ?_; intro A66 n66 c66 w66 z66 hM66 _; have s14 : w66.cell? ⟨q, 14, none⟩ = some (.slice D.a D.n D.c) := (kC.out w66 hM66).2.2.2.2.2.2; replace z66 := Lib.hid z66; replace hM66 := Lib.hid hM66))
        clear s14 z65 z45
        go_loopw [5, 8] (fun v x wr => ∃ j : Nat, x = .int .i64 j ∧ j ≤ D.n ∧ ∃ A n c, v = .slice A n c ∧ Acc w1 wr A n c (headB r ++ nb 1 ++ nb (D.n : Int) ++ (r.e.deps.take j).flatMap isB) (60 + 10 + j * 20) ∧ Mod none_ w1 wr) (fun _ x _ => D.n - (intOf x).toNat)
        case atStart => exact ⟨0, rfl, by omega, A66, n66, c66, rfl, by simpa using z66.out, hM66.out⟩
        case round =>
          obtain ⟨j, rfl, hj, A, n, c, rfl, hz4, hM⟩ := hrel
          have s14 : wr.cell? ⟨q, 14, none⟩ = some (.slice D.a D.n D.c) := (kC.out wr hM).2.2.2.2.2.2
          by_cases hlt : j < D.n
          · obtain ⟨b, p, d, hDa, hdm, hdj, x1, x2⟩ := rdp_get (w := w1) (hrdD.out.mod0 hmm.out) hlt
            have hdi := hdk.out d hdm
            have hdi1 := hdi.1
            have hdi2 := hdi.2
            replace hz4 := Lib.hid hz4
            replace hM := Lib.hid hM
            replace hdm := Lib.hid hdm
            replace hdj := Lib.hid hdj
            replace hdi := Lib.hid hdi
            replace hDa := Lib.hid hDa
            go_wp2_with fail
            have hMd := Lib.hid (hM.out.drew)
            have zd := Lib.hid (hz4.out.mod0 (Mod.refl none_ _).drew)
            clear hz4
            refine wp_region_held_drew (S := fun W => Mod none_ w1 W) (by kernel_rfl) hMd.out (fun hHeld => ?_)
            refine wpAnyH_take (i := 0) (v := ?_) rfl (by kernel_rfl) (by kernel_rfl) (by kernel_rfl) (fun _ _ _ h => h) (Or.inl ⟨by rfl, ?_⟩) (by assumption) ?_
            rotate_left
            · intro W hSw; (try dsimp only at hSw); go_simp; (try with_reducible rfl)
            try simp only [Act.put, List.getElem_toArray, List.getElem_cons_zero, List.getElem_cons_succ, List.setIfInBounds_toArray, List.set_cons_zero, List.set_cons_succ]
            refine wpAnyH_take (i := 1) (v := ?_) rfl (by kernel_rfl) (by kernel_rfl) (by kernel_rfl) (fun _ _ _ h => h) (Or.inl ⟨by rfl, ?_⟩) (by assumption) ?_
            rotate_left
            · intro W hSw; (try dsimp only at hSw); go_simp; (try with_reducible rfl)
            try simp only [Act.put, List.getElem_toArray, List.getElem_cons_zero, List.getElem_cons_succ, List.setIfInBounds_toArray, List.set_cons_zero, List.set_cons_succ]
            refine wpAnyH_take (i := 2) (v := ?_) rfl (by kernel_rfl) (by kernel_rfl) (by kernel_rfl) (fun _ _ _ h => h) (Or.inl ⟨by rfl, ?_⟩) (by assumption) ?_
            rotate_left
            · intro W hSw; (try dsimp only at hSw); go_simp; (try with_reducible rfl)
            try simp only [Act.put, List.getElem_toArray, List.getElem_cons_zero, List.getElem_cons_succ, List.setIfInBounds_toArray, List.set_cons_zero, List.set_cons_succ]
            refine wpAnyH_take (i := 4) (v := ?_) rfl (by kernel_rfl) (by kernel_rfl) (by kernel_rfl) (fun _ _ _ h => h) (Or.inl ⟨by rfl, ?_⟩) (by assumption) ?_
            rotate_left
            · intro W hSw; (try dsimp only at hSw); go_simp; (try with_reducible rfl)
            try simp only [Act.put, List.getElem_toArray, List.getElem_cons_zero, List.getElem_cons_succ, List.setIfInBounds_toArray, List.set_cons_zero, List.set_cons_succ]
            refine wpAnyH_take (i := 10) (v := ?_) rfl (by kernel_rfl) (by kernel_rfl) (by kernel_rfl) (fun _ _ _ h => h) (Or.inl ⟨by rfl, ?_⟩) (by assumption) ?_
            rotate_left
            · intro W hSw; (try dsimp only at hSw); go_simp; (try with_reducible rfl)
            try simp only [Act.put, List.getElem_toArray, List.getElem_cons_zero, List.getElem_cons_succ, List.setIfInBounds_toArray, List.set_cons_zero, List.set_cons_succ]
            refine wpAnyH_take (i := 11) (v := ?_) rfl (by kernel_rfl) (by kernel_rfl) (by kernel_rfl) (fun _ _ _ h => h) (Or.inl ⟨by rfl, ?_⟩) (by assumption) ?_
            rotate_left
            · intro W hSw; (try dsimp only at hSw); go_simp; (try with_reducible rfl)
            try simp only [Act.put, List.getElem_toArray, List.getElem_cons_zero, List.getElem_cons_succ, List.setIfInBounds_toArray, List.set_cons_zero, List.set_cons_succ]
            refine wpAnyH_take (i := 13) (v := ?_) rfl (by kernel_rfl) (by kernel_rfl) (by kernel_rfl) (fun _ _ _ h => h) (Or.inl ⟨by rfl, ?_⟩) (by assumption) ?_
            rotate_left
            · intro W hSw; (try dsimp only at hSw); go_simp; (try with_reducible rfl)
            try simp only [Act.put, List.getElem_toArray, List.getElem_cons_zero, List.getElem_cons_succ, List.setIfInBounds_toArray, List.set_cons_zero, List.set_cons_succ]
            refine wpAnyH_take (i := 3) (v := ?_) rfl (by kernel_rfl) (by kernel_rfl) (by kernel_rfl) (fun _ _ _ h => h) (Or.inl ⟨by rfl, ?_⟩) (by assumption) ?_
            rotate_left
            · intro W hSw; obtain ⟨p0, p1, s0, s1, s2, s13, s14⟩ := kC.out W hSw; rw [hDa.out] at s14; have y1 := hSw.cell_some x1 (fun h => h); have y2 := hSw.cell_some x2 (fun h => h); go_simp; (try with_reducible rfl)
            try simp only [Act.put, List.getElem_toArray, List.getElem_cons_zero, List.getElem_cons_succ, List.setIfInBounds_toArray, List.set_cons_zero, List.set_cons_succ]
            refine wpAnyH_take (i := 12) (v := ?_) rfl (by kernel_rfl) (by kernel_rfl) (by kernel_rfl) (fun _ _ _ h => h) (Or.inl ⟨by rfl, ?_⟩) (by assumption) ?_
            rotate_left
            · intro W hSw; obtain ⟨p0, p1, s0, s1, s2, s13, s14⟩ := kC.out W hSw; rw [hDa.out] at s14; have y1 := hSw.cell_some x1 (fun h => h); have y2 := hSw.cell_some x2 (fun h => h); go_simp; (try with_reducible rfl)
            try simp only [Act.put, List.getElem_toArray, List.getElem_cons_zero, List.getElem_cons_succ, List.setIfInBounds_toArray, List.set_cons_zero, List.set_cons_succ]
            refine wpAnyH_take (i := 5) (v := ?_) rfl (by kernel_rfl) (by kernel_rfl) (by kernel_rfl) (fun _ _ _ h => h) (Or.inl ⟨by rfl, ?_⟩) (by assumption) ?_
            rotate_left
            · intro W hSw; (try dsimp only at hSw); go_simp; (try with_reducible rfl)
            try simp only [Act.put, List.getElem_toArray, List.getElem_cons_zero, List.getElem_cons_succ, List.setIfInBounds_toArray, List.set_cons_zero, List.set_cons_succ]
            refine wpAnyH_take (i := 6) (v := ?_) rfl (by kernel_rfl) (by kernel_rfl) (by kernel_rfl) (fun _ _ _ h => h) (Or.inl ⟨by rfl, ?_⟩) (by assumption) ?_
            rotate_left
            · intro W hSw; (try dsimp only at hSw); go_simp; (try with_reducible rfl)
            try simp only [Act.put, List.getElem_toArray, List.getElem_cons_zero, List.getElem_cons_succ, List.setIfInBounds_toArray, List.set_cons_zero, List.set_cons_succ]
            refine wpAnyH_take (i := 14) (v := ?_) rfl (by kernel_rfl) (by kernel_rfl) (by kernel_rfl) (fun _ _ _ h => h) (Or.inl ⟨by rfl, ?_⟩) (by assumption) ?_
            rotate_left
            · intro W hSw; (try dsimp only at hSw); go_simp; (try with_reducible rfl)
            try simp only [Act.put, List.getElem_toArray, List.getElem_cons_zero, List.getElem_cons_succ, List.setIfInBounds_toArray, List.set_cons_zero, List.set_cons_succ]
            refine wpAnyH_take (i := 15) (v := ?_) rfl (by kernel_rfl) (by kernel_rfl) (by kernel_rfl) (fun _ _ _ h => h) (Or.inl ⟨by rfl, ?_⟩) (by assumption) ?_
            rotate_left
            · intro W hSw; (try dsimp only at hSw); go_simp; (try with_reducible rfl)
            try simp only [Act.put, List.getElem_toArray, List.getElem_cons_zero, List.getElem_cons_succ, List.setIfInBounds_toArray, List.set_cons_zero, List.set_cons_succ]
            refine wpAnyH_take (i := 7) (v := ?_) rfl (by kernel_rfl) (by kernel_rfl) (by kernel_rfl) (fun _ _ _ h => h) (Or.inl ⟨by rfl, ?_⟩) (by assumption) ?_
            rotate_left
            · intro W hSw; obtain ⟨p0, p1, s0, s1, s2, s13, s14⟩ := kC.out W hSw; rw [hDa.out] at s14; have y1 := hSw.cell_some x1 (fun h => h); have y2 := hSw.cell_some x2 (fun h => h); go_simp; (try with_reducible rfl)
            try simp only [Act.put, List.getElem_toArray, List.getElem_cons_zero, List.getElem_cons_succ, List.setIfInBounds_toArray, List.set_cons_zero, List.set_cons_succ]
            refine wpAnyH_take (i := 16) (v := ?_) rfl (by kernel_rfl) (by kernel_rfl) (by kernel_rfl) (fun _ _ _ h => h) (Or.inl ⟨by rfl, ?_⟩) (by assumption) ?_
            rotate_left
            · intro W hSw; obtain ⟨p0, p1, s0, s1, s2, s13, s14⟩ := kC.out W hSw; rw [hDa.out] at s14; have y1 := hSw.cell_some x1 (fun h => h); have y2 := hSw.cell_some x2 (fun h => h); go_simp; (try with_reducible rfl)
            try simp only [Act.put, List.getElem_toArray, List.getElem_cons_zero, List.getElem_cons_succ, List.setIfInBounds_toArray, List.set_cons_zero, List.set_cons_succ]
            refine wpAnyH_ready (rs := [8]) (by kernel_rfl) (by simp) ?_
            refine AllReadyH.cons rfl (fun K hK => ?_) AllReadyH.nil
            go_simp
            (with_reducible refine (acc_call 10 (r15num_ok _ d.r (in64_mk (by omega) (by omega))) hMd.out (nb_len _)).mono ?_); rintro e83 w83 ⟨A83, n83, c83, rfl, z83, hm83, hM83⟩; dsimp only
            replace zd := Lib.hid (zd.out.mod0 hm83)
            clear hm83
            replace z83 := Lib.hid z83
            replace hM83 := Lib.hid hM83
            go_wp2_with fail
            refine hK.out _ _ (hM83.out) (fun hHeld => ?_)
            clear hK K
            try simp only [Act.put, List.getElem_toArray, List.getElem_cons_zero, List.getElem_cons_succ, List.setIfInBounds_toArray, List.set_cons_zero, List.set_cons_succ]
            refine wpAnyH_ready (rs := [9]) (by kernel_rfl) (by simp) ?_
            refine AllReadyH.cons rfl (fun K hK => ?_) AllReadyH.nil
            refine step_acc rfl (.tmp 75) (.tmp 83) rfl hM83.out rfl zd.out rfl z83.out (by omega) ?_
            intro A84 n84 c84 w84 z84 hM84 _ _
            replace z84 := Lib.hid z84
            replace hM84 := Lib.hid hM84
            clear zd z83
            refine hK.out _ _ (hM84.out) (fun hHeld => ?_)
            clear hK K
            try simp only [Act.put, List.getElem_toArray, List.getElem_cons_zero, List.getElem_cons_succ, List.setIfInBounds_toArray, List.set_cons_zero, List.set_cons_succ]
            refine wpAnyH_ready (rs := [17]) (by kernel_rfl) (by simp) ?_
            refine AllReadyH.cons rfl (fun K hK => ?_) AllReadyH.nil
            go_simp
            (with_reducible refine (acc_call 10 (r15num_ok _ d.n (in64_mk (by omega) (by omega))) hM84.out (nb_len _)).mono ?_); rintro e92 w92 ⟨A92, n92, c92, rfl, z92, hm92, hM92⟩; dsimp only
            replace z84 := Lib.hid (z84.out.mod0 hm92)
            clear hm92
            replace z92 := Lib.hid z92
            replace hM92 := Lib.hid hM92
            go_wp2_with fail
            refine hK.out _ _ (hM92.out) (fun hHeld => ?_)
            clear hK K
            try simp only [Act.put, List.getElem_toArray, List.getElem_cons_zero, List.getElem_cons_succ, List.setIfInBounds_toArray, List.set_cons_zero, List.set_cons_succ]
            refine wpAnyH_ready (rs := [18]) (by kernel_rfl) (by simp) ?_
            refine AllReadyH.cons rfl (fun K hK => ?_) AllReadyH.nil
            refine step_acc rfl (.tmp 84) (.tmp 92) rfl hM92.out rfl z84.out rfl z92.out (by omega) ?_
            intro A93 n93 c93 w93 z93 hM93 _ _
            replace z93 := Lib.hid z93
            replace hM93 := Lib.hid hM93
            clear z84 z92
            refine hK.out _ _ (hM93.out) (fun hHeld => ?_)
            clear hK K
            try simp only [Act.put, List.getElem_toArray, List.getElem_cons_zero, List.getElem_cons_succ, List.setIfInBounds_toArray, List.set_cons_zero, List.set_cons_succ]
            refine wpAnyH_take (i := 19) (v := ?_) rfl (by kernel_rfl) (by kernel_rfl) (by kernel_rfl) (fun _ _ _ h => h) (Or.inl ⟨by rfl, ?_⟩) (by assumption) ?_
            rotate_left
            · intro W hSw; (try dsimp only at hSw); go_simp; (try with_reducible rfl)
            try simp only [Act.put, List.getElem_toArray, List.getElem_cons_zero, List.getElem_cons_succ, List.setIfInBounds_toArray, List.set_cons_zero, List.set_cons_succ]
            refine wpAnyH_done (by kernel_rfl) ?_ _
            clear hHeld hMd hM83 hM84 hM92 s14
            go_wp2_with fail
            go_roundw
            case rel => exact ⟨j + 1, by go_num, by omega, A93, n93, c93, rfl, by rw [← dep15 hdj.out]; exact ⟨z93.out.ow, z93.out.fr, by have := z93.out.le; omega⟩, hM93.out⟩
            case measure => simp [intOf]; omega
          · have hjl : j = D.n := by omega
            subst hjl
            rw [List.take_of_length_le (by have := hdl.out; omega)] at hz4
            have hz9 := hz4
            rw [show (D.n : Int) = (r.e.deps.length : Int) by rw [hdl.out], rec15a r hs.out hnn.out] at hz9
            have hlz := hz9.len
            subst hlz
            clear hz4
            replace hz9 := Lib.hid hz9
            replace hM := Lib.hid hM
            go_wp2_with fail
            go_ret2
            exact .inl ⟨hr.out, A, c, rfl, hz9.out.ow, fun a ha => Nat.le_trans hmm.out.size (hz9.out.fr a ha), hmm.out.trans hM.out⟩
      | false =>
        rw [hnn] at s13 k7
        simp only [Bool.false_eq_true, if_false] at k7
        obtain ⟨k7, k8⟩ := k7
        have hol := orderB_len k8
        have kO5 := kO.out w35 (hmm.out.trans hM35.out)
        rw [k7] at kO5
        clear k7 k8
        replace hnn := Lib.hid hnn
        have hBs5 := Lib.hid (hBs.out.mod hM35.out (fun h => h))
        go_wp2_with (refine wpList_load_blk rfl 30 (.tmp 48) rfl q 3 rfl hBs5.out [.int .i64 r.e.o.c, .int .i64 r.e.o.s, .int .i64 r.e.o.k, .string (txt r.e.o.acct), .string (txt r.e.o.peer), .int .i64 r.e.o.sum, .slice L.a L.n L.c, .int .i64 r.e.o.per, .int .i64 r.e.o.hold, .string (txt r.e.o.note)] rfl Tryz.underlying30 rfl order_size ?_)
        with_reducible refine kO5.mono ?_
        rintro e w50 hpost
        obtain ⟨A50, c50, rfl, ho50, hf50, hm50⟩ : ∃ A c, e = .returned (.tuple #[.slice A (orderB r.e.o).length c, .int .i64 0]) ∧ OwB w50 5 A (orderB r.e.o).length c (orderB r.e.o) ∧ Fresh w35 A ∧ Mod none_ w35 w50 := by
          rcases hpost with ⟨_, h⟩ | ⟨h, _⟩
          · exact h
          · cases h
        dsimp only
        have hdis : Hid (∀ k, fp A50 k → ¬ fp A35 k) := Lib.hid (fun k (h1 : fp A50 k) (h2 : fp A35 k) => absurd (z35.out.ow.lt k h2) (by obtain ⟨a, ha, rfl⟩ := h1; have := hf50 a ha; omega))
        have hlt50 := Lib.hid ho50.lt
        have zo := Lib.hid (ByAt.of_ow ho50 (by omega))
        have hM50 := Lib.hid (hM35.out.trans hm50)
        replace z35 := Lib.hid (z35.out.mod0 hm50)
        generalize hgo : (orderB r.e.o).length = m50 at *
        replace hgo := Lib.hid hgo
        clear hpost ho50 hf50 hm50 kO5 s1 s13 hBs5
        go_wp2_with fail
        have hS0 := Lib.hid (zo.out.mod0 (Mod.refl none_ w50).drew)
        have hMg := Lib.hid (hM50.out.drew)
        have zg := Lib.hid (z35.out.mod0 (Mod.refl none_ _).drew)
        clear z35 zo
        refine wp_region_held_drew (S := fun W => ByAt W ⟨A50, m50, c50⟩ (orderB r.e.o)) (by kernel_rfl) hS0.out (fun hHeld => ?_)
        refine wpAnyH_take (i := 0) (v := ?_) rfl (by kernel_rfl) (by kernel_rfl) (by kernel_rfl) (fun _ _ _ h => h) (Or.inl ⟨by rfl, ?_⟩) (by assumption) ?_
        rotate_left
        · intro W hSw; (try dsimp only at hSw); go_simp; (try with_reducible rfl)
        try simp only [Act.put, List.getElem_toArray, List.getElem_cons_zero, List.getElem_cons_succ, List.setIfInBounds_toArray, List.set_cons_zero, List.set_cons_succ]
        refine wpAnyH_take (i := 3) (v := ?_) rfl (by kernel_rfl) (by kernel_rfl) (by kernel_rfl) (fun _ _ _ h => h) (Or.inl ⟨by rfl, ?_⟩) (by assumption) ?_
        rotate_left
        · intro W hSw; (try dsimp only at hSw); go_simp; (try with_reducible rfl)
        try simp only [Act.put, List.getElem_toArray, List.getElem_cons_zero, List.getElem_cons_succ, List.setIfInBounds_toArray, List.set_cons_zero, List.set_cons_succ]
        refine wpAnyH_take (i := 4) (v := ?_) rfl (by kernel_rfl) (by kernel_rfl) (by kernel_rfl) (fun _ _ _ h => h) (Or.inl ⟨by rfl, ?_⟩) (by assumption) ?_
        rotate_left
        · intro W hSw; have hcv := ByAt.conv hSw; dsimp only at hcv; go_simp; (try with_reducible rfl)
        try simp only [Act.put, List.getElem_toArray, List.getElem_cons_zero, List.getElem_cons_succ, List.setIfInBounds_toArray, List.set_cons_zero, List.set_cons_succ]
        refine wpAnyH_ready (rs := [1]) (by kernel_rfl) (by simp) ?_
        refine AllReadyH.cons rfl (fun K hK => ?_) AllReadyH.nil
        go_simp
        (with_reducible refine (acc_call 10 (r15num_ok _ 0 (in64_mk (by omega) (by omega))) hMg.out (nb_len _)).mono ?_); rintro e54 w54 ⟨A54, n54, c54, rfl, z54, hm54, hM54⟩; dsimp only
        replace zg := Lib.hid (zg.out.mod0 hm54)
        replace hS0 := Lib.hid (hS0.out.mod0 hm54)
        have hsz54 := Lib.hid (((Mod.refl none_ w50).drew).trans hm54).size
        clear hm54
        replace z54 := Lib.hid z54
        replace hM54 := Lib.hid hM54
        go_wp2_with fail
        refine hK.out _ _ (hS0.out) (fun hHeld => ?_)
        clear hK K
        try simp only [Act.put, List.getElem_toArray, List.getElem_cons_zero, List.getElem_cons_succ, List.setIfInBounds_toArray, List.set_cons_zero, List.set_cons_succ]
        refine wpAnyH_ready (rs := [2]) (by kernel_rfl) (by simp) ?_
        refine AllReadyH.cons rfl (fun K hK => ?_) AllReadyH.nil
        refine step_acc rfl (.tmp 53) (.tmp 54) rfl hM54.out rfl zg.out rfl z54.out (by omega) ?_
        intro A55 n55 c55 w55 z55 hM55 hm55 hA55
        have hdis2 : Hid (∀ k, fp A50 k → ¬ fp A55 k) := Lib.hid (by
          intro k h1 h2
          rcases hA55 with h3 | h3
          · rw [h3] at h2; exact hdis.out k h1 h2
          · rw [h3] at h2; obtain ⟨a, ha, rfl⟩ := h2; cases ha; have := hlt50.out _ h1; have := hsz54.out; dsimp only at *; omega)
        clear hA55
        replace hS0 := Lib.hid (⟨Rd.mod hS0.out.1 hm55 hdis.out, hS0.out.2⟩ : ByAt w55 ⟨A50, m50, c50⟩ (orderB r.e.o))
        replace z55 := Lib.hid z55
        replace hM55 := Lib.hid hM55
        clear zg z54 hm55
        refine hK.out _ _ (hS0.out) (fun hHeld => ?_)
        clear hK K
        try simp only [Act.put, List.getElem_toArray, List.getElem_cons_zero, List.getElem_cons_succ, List.setIfInBounds_toArray, List.set_cons_zero, List.set_cons_succ]
        refine wpAnyH_ready (rs := [5]) (by kernel_rfl) (by simp) ?_
        refine AllReadyH.cons rfl (fun K hK => ?_) AllReadyH.nil
        go_simp
        (with_reducible refine (acc_call 1010 (r2text_ok _ (orderB r.e.o) (by have := hgo.out; omega)) hM55.out (by have := txtB_len (orderB r.e.o); have := hgo.out; omega)).mono ?_); rintro e58 w58 ⟨A58, n58, c58, rfl, z58, hm58, hM58⟩; dsimp only
        replace z55 := Lib.hid (z55.out.mod0 hm58)
        replace hS0 := Lib.hid (hS0.out.mod0 hm58)
        clear hm58
        replace z58 := Lib.hid z58
        replace hM58 := Lib.hid hM58
        go_wp2_with fail
        refine hK.out _ _ (hS0.out) (fun hHeld => ?_)
        clear hK K
        try simp only [Act.put, List.getElem_toArray, List.getElem_cons_zero, List.getElem_cons_succ, List.setIfInBounds_toArray, List.set_cons_zero, List.set_cons_succ]
        refine wpAnyH_ready (rs := [6]) (by kernel_rfl) (by simp) ?_
        refine AllReadyH.cons rfl (fun K hK => ?_) AllReadyH.nil
        refine step_acc rfl (.tmp 55) (.tmp 58) rfl hM58.out rfl z55.out rfl z58.out (by omega) ?_
        intro A59 n59 c59 w59 z59 hM59 hm59 _
        replace hS0 := Lib.hid (⟨Rd.mod hS0.out.1 hm59 hdis2.out, hS0.out.2⟩ : ByAt w59 ⟨A50, m50, c50⟩ (orderB r.e.o))
        replace z59 := Lib.hid z59
        replace hM59 := Lib.hid hM59
        clear z55 z58 hm59
        refine hK.out _ _ (hS0.out) (fun hHeld => ?_)
        clear hK K
        try simp only [Act.put, List.getElem_toArray, List.getElem_cons_zero, List.getElem_cons_succ, List.setIfInBounds_toArray, List.set_cons_zero, List.set_cons_succ]
        refine wpAnyH_take (i := 7) (v := ?_) rfl (by kernel_rfl) (by kernel_rfl) (by kernel_rfl) (fun _ _ _ h => h) (Or.inl ⟨by rfl, ?_⟩) (by assumption) ?_
        rotate_left
        · intro W hSw; (try dsimp only at hSw); go_simp; (try with_reducible rfl)
        try simp only [Act.put, List.getElem_toArray, List.getElem_cons_zero, List.getElem_cons_succ, List.setIfInBounds_toArray, List.set_cons_zero, List.set_cons_succ]
        refine wpAnyH_done (by kernel_rfl) ?_ _
        clear hHeld hS0 hMg hM50 hM54 hM55 hM58
        have s14 : w59.cell? ⟨q, 14, none⟩ = some (.slice D.a D.n D.c) := (kC.out w59 hM59.out).2.2.2.2.2.2
        go_wp2_with fail
        (with_reducible refine (acc_call 10 (r15num_ok _ (D.n : Int) (in64_mk (by omega) (by omega))) hM59.out (nb_len _)).mono ?_); rintro e65 w65 ⟨A65, n65, c65, rfl, z65, hm65, hM65⟩; dsimp only
        replace z59 := Lib.hid (z59.out.mod0 hm65)
        clear hm65 s14
        replace z65 := Lib.hid z65
        replace hM65 := Lib.hid hM65
        go_wp2_with (at_builtin; go_loud (refine app_acc rfl (.tmp 60) (.tmp 65) rfl hM65.out rfl z59.out rfl z65.out (by omega) ?_; intro A66 n66 c66 w66 z66 hM66 _; have s14 : w66.cell? ⟨q, 14, none⟩ = some (.slice D.a D.n D.c) := (kC.out w66 hM66).2.2.2.2.2.2; replace z66 := Lib.hid z66; replace hM66 := Lib.hid hM66))
        clear s14 z65 z59
        go_loopw [5, 8] (fun v x wr => ∃ j : Nat, x = .int .i64 j ∧ j ≤ D.n ∧ ∃ A n c, v = .slice A n c ∧ Acc w1 wr A n c (headB r ++ nb 0 ++ txtB (orderB r.e.o) ++ nb (D.n : Int) ++ (r.e.deps.take j).flatMap isB) (1070 + 10 + j * 20) ∧ Mod none_ w1 wr) (fun _ x _ => D.n - (intOf x).toNat)
        case atStart => exact ⟨0, rfl, by omega, A66, n66, c66, rfl, by simpa using z66.out, hM66.out⟩
        case round =>
          obtain ⟨j, rfl, hj, A, n, c, rfl, hz4, hM⟩ := hrel
          have s14 : wr.cell? ⟨q, 14, none⟩ = some (.slice D.a D.n D.c) := (kC.out wr hM).2.2.2.2.2.2
          by_cases hlt : j < D.n
          · obtain ⟨b, p, d, hDa, hdm, hdj, x1, x2⟩ := rdp_get (w := w1) (hrdD.out.mod0 hmm.out) hlt
            have hdi := hdk.out d hdm
            have hdi1 := hdi.1
            have hdi2 := hdi.2
            replace hz4 := Lib.hid hz4
            replace hM := Lib.hid hM
            replace hdm := Lib.hid hdm
            replace hdj := Lib.hid hdj
            replace hdi := Lib.hid hdi
            replace hDa := Lib.hid hDa
            go_wp2_with fail
            have hMd := Lib.hid (hM.out.drew)
            have zd := Lib.hid (hz4.out.mod0 (Mod.refl none_ _).drew)
            clear hz4
            refine wp_region_held_drew (S := fun W => Mod none_ w1 W) (by kernel_rfl) hMd.out (fun hHeld => ?_)
            refine wpAnyH_take (i := 0) (v := ?_) rfl (by kernel_rfl) (by kernel_rfl) (by kernel_rfl) (fun _ _ _ h => h) (Or.inl ⟨by rfl, ?_⟩) (by assumption) ?_
            rotate_left
            · intro W hSw; (try dsimp only at hSw); go_simp; (try with_reducible rfl)
            try simp only [Act.put, List.getElem_toArray, List.getElem_cons_zero, List.getElem_cons_succ, List.setIfInBounds_toArray, List.set_cons_zero, List.set_cons_succ]
            refine wpAnyH_take (i := 1) (v := ?_) rfl (by kernel_rfl) (by kernel_rfl) (by kernel_rfl) (fun _ _ _ h => h) (Or.inl ⟨by rfl, ?_⟩) (by assumption) ?_
            rotate_left
            · intro W hSw; (try dsimp only at hSw); go_simp; (try with_reducible rfl)
            try simp only [Act.put, List.getElem_toArray, List.getElem_cons_zero, List.getElem_cons_succ, List.setIfInBounds_toArray, List.set_cons_zero, List.set_cons_succ]
            refine wpAnyH_take (i := 2) (v := ?_) rfl (by kernel_rfl) (by kernel_rfl) (by kernel_rfl) (fun _ _ _ h => h) (Or.inl ⟨by rfl, ?_⟩) (by assumption) ?_
            rotate_left
            · intro W hSw; (try dsimp only at hSw); go_simp; (try with_reducible rfl)
            try simp only [Act.put, List.getElem_toArray, List.getElem_cons_zero, List.getElem_cons_succ, List.setIfInBounds_toArray, List.set_cons_zero, List.set_cons_succ]
            refine wpAnyH_take (i := 4) (v := ?_) rfl (by kernel_rfl) (by kernel_rfl) (by kernel_rfl) (fun _ _ _ h => h) (Or.inl ⟨by rfl, ?_⟩) (by assumption) ?_
            rotate_left
            · intro W hSw; (try dsimp only at hSw); go_simp; (try with_reducible rfl)
            try simp only [Act.put, List.getElem_toArray, List.getElem_cons_zero, List.getElem_cons_succ, List.setIfInBounds_toArray, List.set_cons_zero, List.set_cons_succ]
            refine wpAnyH_take (i := 10) (v := ?_) rfl (by kernel_rfl) (by kernel_rfl) (by kernel_rfl) (fun _ _ _ h => h) (Or.inl ⟨by rfl, ?_⟩) (by assumption) ?_
            rotate_left
            · intro W hSw; (try dsimp only at hSw); go_simp; (try with_reducible rfl)
            try simp only [Act.put, List.getElem_toArray, List.getElem_cons_zero, List.getElem_cons_succ, List.setIfInBounds_toArray, List.set_cons_zero, List.set_cons_succ]
            refine wpAnyH_take (i := 11) (v := ?_) rfl (by kernel_rfl) (by kernel_rfl) (by kernel_rfl) (fun _ _ _ h => h) (Or.inl ⟨by rfl, ?_⟩) (by assumption) ?_
            rotate_left
            · intro W hSw; (try dsimp only at hSw); go_simp; (try with_reducible rfl)
            try simp only [Act.put, List.getElem_toArray, List.getElem_cons_zero, List.getElem_cons_succ, List.setIfInBounds_toArray, List.set_cons_zero, List.set_cons_succ]
            refine wpAnyH_take (i := 13) (v := ?_) rfl (by kernel_rfl) (by kernel_rfl) (by kernel_rfl) (fun _ _ _ h => h) (Or.inl ⟨by rfl, ?_⟩) (by assumption) ?_
            rotate_left
            · intro W hSw; (try dsimp only at hSw); go_simp; (try with_reducible rfl)
            try simp only [Act.put, List.getElem_toArray, List.getElem_cons_zero, List.getElem_cons_succ, List.setIfInBounds_toArray, List.set_cons_zero, List.set_cons_succ]
            refine wpAnyH_take (i := 3) (v := ?_) rfl (by kernel_rfl) (by kernel_rfl) (by kernel_rfl) (fun _ _ _ h => h) (Or.inl ⟨by rfl, ?_⟩) (by assumption) ?_
            rotate_left
            · intro W hSw; obtain ⟨p0, p1, s0, s1, s2, s13, s14⟩ := kC.out W hSw; rw [hDa.out] at s14; have y1 := hSw.cell_some x1 (fun h => h); have y2 := hSw.cell_some x2 (fun h => h); go_simp; (try with_reducible rfl)
            try simp only [Act.put, List.getElem_toArray, List.getElem_cons_zero, List.getElem_cons_succ, List.setIfInBounds_toArray, List.set_cons_zero, List.set_cons_succ]
            refine wpAnyH_take (i := 12) (v := ?_) rfl (by kernel_rfl) (by kernel_rfl) (by kernel_rfl) (fun _ _ _ h => h) (Or.inl ⟨by rfl, ?_⟩) (by assumption) ?_
            rotate_left
            · intro W hSw; obtain ⟨p0, p1, s0, s1, s2, s13, s14⟩ := kC.out W hSw; rw [hDa.out] at s14; have y1 := hSw.cell_some x1 (fun h => h); have y2 := hSw.cell_some x2 (fun h => h); go_simp; (try with_reducible rfl)
            try simp only [Act.put, List.getElem_toArray, List.getElem_cons_zero, List.getElem_cons_succ, List.setIfInBounds_toArray, List.set_cons_zero, List.set_cons_succ]
            refine wpAnyH_take (i := 5) (v := ?_) rfl (by kernel_rfl) (by kernel_rfl) (by kernel_rfl) (fun _ _ _ h => h) (Or.inl ⟨by rfl, ?_⟩) (by assumption) ?_
            rotate_left
            · intro W hSw; (try dsimp only at hSw); go_simp; (try with_reducible rfl)
            try simp only [Act.put, List.getElem_toArray, List.getElem_cons_zero, List.getElem_cons_succ, List.setIfInBounds_toArray, List.set_cons_zero, List.set_cons_succ]
            refine wpAnyH_take (i := 6) (v := ?_) rfl (by kernel_rfl) (by kernel_rfl) (by kernel_rfl) (fun _ _ _ h => h) (Or.inl ⟨by rfl, ?_⟩) (by assumption) ?_
            rotate_left
            · intro W hSw; (try dsimp only at hSw); go_simp; (try with_reducible rfl)
            try simp only [Act.put, List.getElem_toArray, List.getElem_cons_zero, List.getElem_cons_succ, List.setIfInBounds_toArray, List.set_cons_zero, List.set_cons_succ]
            refine wpAnyH_take (i := 14) (v := ?_) rfl (by kernel_rfl) (by kernel_rfl) (by kernel_rfl) (fun _ _ _ h => h) (Or.inl ⟨by rfl, ?_⟩) (by assumption) ?_
            rotate_left
            · intro W hSw; (try dsimp only at hSw); go_simp; (try with_reducible rfl)
            try simp only [Act.put, List.getElem_toArray, List.getElem_cons_zero, List.getElem_cons_succ, List.setIfInBounds_toArray, List.set_cons_zero, List.set_cons_succ]
            refine wpAnyH_take (i := 15) (v := ?_) rfl (by kernel_rfl) (by kernel_rfl) (by kernel_rfl) (fun _ _ _ h => h) (Or.inl ⟨by rfl, ?_⟩) (by assumption) ?_
            rotate_left
            · intro W hSw; (try dsimp only at hSw); go_simp; (try with_reducible rfl)
            try simp only [Act.put, List.getElem_toArray, List.getElem_cons_zero, List.getElem_cons_succ, List.setIfInBounds_toArray, List.set_cons_zero, List.set_cons_succ]
            refine wpAnyH_take (i := 7) (v := ?_) rfl (by kernel_rfl) (by kernel_rfl) (by kernel_rfl) (fun _ _ _ h => h) (Or.inl ⟨by rfl, ?_⟩) (by assumption) ?_
            rotate_left
            · intro W hSw; obtain ⟨p0, p1, s0, s1, s2, s13, s14⟩ := kC.out W hSw; rw [hDa.out] at s14; have y1 := hSw.cell_some x1 (fun h => h); have y2 := hSw.cell_some x2 (fun h => h); go_simp; (try with_reducible rfl)
            try simp only [Act.put, List.getElem_toArray, List.getElem_cons_zero, List.getElem_cons_succ, List.setIfInBounds_toArray, List.set_cons_zero, List.set_cons_succ]
            refine wpAnyH_take (i := 16) (v := ?_) rfl (by kernel_rfl) (by kernel_rfl) (by kernel_rfl) (fun _ _ _ h => h) (Or.inl ⟨by rfl, ?_⟩) (by assumption) ?_
            rotate_left
            · intro W hSw; obtain ⟨p0, p1, s0, s1, s2, s13, s14⟩ := kC.out W hSw; rw [hDa.out] at s14; have y1 := hSw.cell_some x1 (fun h => h); have y2 := hSw.cell_some x2 (fun h => h); go_simp; (try with_reducible rfl)
            try simp only [Act.put, List.getElem_toArray, List.getElem_cons_zero, List.getElem_cons_succ, List.setIfInBounds_toArray, List.set_cons_zero, List.set_cons_succ]
            refine wpAnyH_ready (rs := [8]) (by kernel_rfl) (by simp) ?_
            refine AllReadyH.cons rfl (fun K hK => ?_) AllReadyH.nil
            go_simp
            (with_reducible refine (acc_call 10 (r15num_ok _ d.r (in64_mk (by omega) (by omega))) hMd.out (nb_len _)).mono ?_); rintro e83 w83 ⟨A83, n83, c83, rfl, z83, hm83, hM83⟩; dsimp only
            replace zd := Lib.hid (zd.out.mod0 hm83)
            clear hm83
            replace z83 := Lib.hid z83
            replace hM83 := Lib.hid hM83
            go_wp2_with fail
            refine hK.out _ _ (hM83.out) (fun hHeld => ?_)
            clear hK K
            try simp only [Act.put, List.getElem_toArray, List.getElem_cons_zero, List.getElem_cons_succ, List.setIfInBounds_toArray, List.set_cons_zero, List.set_cons_succ]
            refine wpAnyH_ready (rs := [9]) (by kernel_rfl) (by simp) ?_
            refine AllReadyH.cons rfl (fun K hK => ?_) AllReadyH.nil
            refine step_acc rfl (.tmp 75) (.tmp 83) rfl hM83.out rfl zd.out rfl z83.out (by omega) ?_
            intro A84 n84 c84 w84 z84 hM84 _ _
            replace z84 := Lib.hid z84
            replace hM84 := Lib.hid hM84
            clear zd z83
            refine hK.out _ _ (hM84.out) (fun hHeld => ?_)
            clear hK K
            try simp only [Act.put, List.getElem_toArray, List.getElem_cons_zero, List.getElem_cons_succ, List.setIfInBounds_toArray, List.set_cons_zero, List.set_cons_succ]
            refine wpAnyH_ready (rs := [17]) (by kernel_rfl) (by simp) ?_
            refine AllReadyH.cons rfl (fun K hK => ?_) AllReadyH.nil
            go_simp
            (with_reducible refine (acc_call 10 (r15num_ok _ d.n (in64_mk (by omega) (by omega))) hM84.out (nb_len _)).mono ?_); rintro e92 w92 ⟨A92, n92, c92, rfl, z92, hm92, hM92⟩; dsimp only
            replace z84 := Lib.hid (z84.out.mod0 hm92)
            clear hm92
            replace z92 := Lib.hid z92
            replace hM92 := Lib.hid hM92
            go_wp2_with fail
            refine hK.out _ _ (hM92.out) (fun hHeld => ?_)
            clear hK K
            try simp only [Act.put, List.getElem_toArray, List.getElem_cons_zero, List.getElem_cons_succ, List.setIfInBounds_toArray, List.set_cons_zero, List.set_cons_succ]
            refine wpAnyH_ready (rs := [18]) (by kernel_rfl) (by simp) ?_
            refine AllReadyH.cons rfl (fun K hK => ?_) AllReadyH.nil
            refine step_acc rfl (.tmp 84) (.tmp 92) rfl hM92.out rfl z84.out rfl z92.out (by omega) ?_
            intro A93 n93 c93 w93 z93 hM93 _ _
            replace z93 := Lib.hid z93
            replace hM93 := Lib.hid hM93
            clear z84 z92
            refine hK.out _ _ (hM93.out) (fun hHeld => ?_)
            clear hK K
            try simp only [Act.put, List.getElem_toArray, List.getElem_cons_zero, List.getElem_cons_succ, List.setIfInBounds_toArray, List.set_cons_zero, List.set_cons_succ]
            refine wpAnyH_take (i := 19) (v := ?_) rfl (by kernel_rfl) (by kernel_rfl) (by kernel_rfl) (fun _ _ _ h => h) (Or.inl ⟨by rfl, ?_⟩) (by assumption) ?_
            rotate_left
            · intro W hSw; (try dsimp only at hSw); go_simp; (try with_reducible rfl)
            try simp only [Act.put, List.getElem_toArray, List.getElem_cons_zero, List.getElem_cons_succ, List.setIfInBounds_toArray, List.set_cons_zero, List.set_cons_succ]
            refine wpAnyH_done (by kernel_rfl) ?_ _
            clear hHeld hMd hM83 hM84 hM92 s14
            go_wp2_with fail
            go_roundw
            case rel => exact ⟨j + 1, by go_num, by omega, A93, n93, c93, rfl, by rw [← dep15 hdj.out]; exact ⟨z93.out.ow, z93.out.fr, by have := z93.out.le; omega⟩, hM93.out⟩
            case measure => simp [intOf]; omega
          · have hjl : j = D.n := by omega
            subst hjl
            rw [List.take_of_length_le (by have := hdl.out; omega)] at hz4
            have hz9 := hz4
            rw [show (D.n : Int) = (r.e.deps.length : Int) by rw [hdl.out], rec15b r hs.out hnn.out] at hz9
            have hlz := hz9.len
            subst hlz
            clear hz4
            replace hz9 := Lib.hid hz9
            replace hM := Lib.hid hM
            go_wp2_with fail
            go_ret2
            exact .inl ⟨hr.out, A, c, rfl, hz9.out.ow, fun a ha => Nat.le_trans hmm.out.size (hz9.out.fr a ha), hmm.out.trans hM.out⟩
end Go.Proofs.YtimlfdihodoolaaGreat
