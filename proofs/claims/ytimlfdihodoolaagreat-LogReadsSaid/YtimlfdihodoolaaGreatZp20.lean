import Derived.Test.YtimlfdihodoolaaGreatZp19
/-
  The reference's order.Bytes. No condition.
-/
namespace Go.Proofs.YtimlfdihodoolaaGreat
set_option linter.unusedVariables false
set_option linter.unusedSimpArgs false
open Go.RowKit
theorem head6 (o : Od) : nb o.c ++ nb o.s ++ nb o.k ++ txtB o.acct ++ txtB o.peer ++ nb o.sum ++ nb (o.legs.length : Int) = headO o := by
  unfold headO; simp only [List.append_assoc]
theorem all6 (o : Od) : headO o ++ o.legs.flatMap legB ++ nb o.per ++ nb o.hold ++ txtB o.note = orderB o := by
  rw [orderB_head]; simp only [List.append_assoc]
theorem leg6 {ls : List Lg} {j : Nat} {l : Lg} (h : ls[j]? = some l) (H : List UInt8) : H ++ (ls.take j).flatMap legB ++ txtB l.n ++ nb l.x = H ++ (ls.take (j + 1)).flatMap legB := by
  rw [List.take_add_one, h]; simp [legB]
set_option maxRecDepth 100000 in
set_option maxHeartbeats 8000000 in
theorem r6bytes_ok (w : World) (o : Od) (L : SV) (hO : OdM w o L) (hL : L.n ≤ 140737488355328) (hz : ∀ l ∈ o.legs, (txt l.n).size ≤ maxLen) (ta : (txt o.acct).size ≤ maxLen) (tp : (txt o.peer).size ≤ maxLen) (hn : in64 o.sum ∧ ∀ l ∈ o.legs, in64 l.x) :
    Calls Tryz.prog 51 #[.agg #[.int .i64 o.c, .int .i64 o.s, .int .i64 o.k, .string (txt o.acct), .string (txt o.peer), .int .i64 o.sum, .slice L.a L.n L.c, .int .i64 o.per, .int .i64 o.hold, .string (txt o.note)]] w (BPost w (rightO o) (orderB o)) := by
  have hB := Blk.new w 30 #[.int .i64 o.c, .int .i64 o.s, .int .i64 o.k, .string (txt o.acct), .string (txt o.peer), .int .i64 o.sum, .slice L.a L.n L.c, .int .i64 o.per, .int .i64 o.hold, .string (txt o.note)]
  have hm0 := (Mod.refl none_ w).alloc (.cells #[.int .i64 o.c, .int .i64 o.s, .int .i64 o.k, .string (txt o.acct), .string (txt o.peer), .int .i64 o.sum, .slice L.a L.n L.c, .int .i64 o.per, .int .i64 o.hold, .string (txt o.note)] 30)
  have kR := Lib.hid (r06right_ok _ o L (hO.mod0 hm0) hL hz ta tp)
  have hrd := Lib.hid hO.rd
  have hlen := Lib.hid hO.rd.len
  replace hB := Lib.hid hB
  replace hm0 := Lib.hid hm0
  replace hz := Lib.hid hz
  replace hO := Lib.hid hO
  replace ta := Lib.hid ta
  replace tp := Lib.hid tp
  go_enter Tryz.func51, Tryz.ntmps51
  go_wp2_with (refine wpList_load_row rfl 30 (.tmp 1) rfl w.heap.size rfl _ _ _ _ hB.out Tryz.underlying30 rfl order_size ?_)
  with_reducible refine kR.out.mono ?_
  rintro e w1 ⟨rfl, hm1⟩
  dsimp only
  cases hr : rightO o with
  | false =>
    replace hr := Lib.hid hr
    replace hm1 := Lib.hid hm1
    go_wp2_with fail
    go_ret2
    exact .inr ⟨hr.out, rfl, hm0.out.trans hm1.out⟩
  | true =>
    have hok := rightO_okOd hr hn
    obtain ⟨⟨k1, k1'⟩, ⟨k2, k2'⟩, ⟨k3, k3'⟩, k4, k5, k6, k7, k8, ⟨k9, k9'⟩, ⟨k10, k10'⟩, k11⟩ := hok
    have hB1 := hB.out.mod hm1 (fun h => h)
    have kC := Lib.hid (fun W (h : Mod none_ w1 W) => odS_of (hB1.mod h (fun h => h)))
    have hmm := Lib.hid (hm0.out.trans hm1)
    replace hr := Lib.hid hr
    replace hm1 := Lib.hid hm1
    replace hB1 := Lib.hid hB1
    replace k6 := Lib.hid k6
    replace k8 := Lib.hid k8
    clear hB
    go_wp2_with fail
    have hM0 := Lib.hid ((Mod.refl none_ w1).drew)
    refine wp_region_held_drew (S := fun W => Mod none_ w1 W) (by kernel_rfl) hM0.out (fun hHeld => ?_)
    refine wpAnyH_take (i := 0) (v := ?_) rfl (by kernel_rfl) (by kernel_rfl) (by kernel_rfl) (fun _ _ _ h => h) (Or.inl ⟨by rfl, ?_⟩) (by assumption) ?_
    rotate_left
    · intro W hSw; (try dsimp only at hSw); go_simp; (try with_reducible rfl)
    try simp only [Act.put, List.getElem_toArray, List.getElem_cons_zero, List.getElem_cons_succ, List.setIfInBounds_toArray, List.set_cons_zero, List.set_cons_succ]
    refine wpAnyH_take (i := 1) (v := ?_) rfl (by kernel_rfl) (by kernel_rfl) (by kernel_rfl) (fun _ _ _ h => h) (Or.inl ⟨by rfl, ?_⟩) (by assumption) ?_
    rotate_left
    · intro W hSw; (try dsimp only at hSw); go_simp; (try with_reducible rfl)
    try simp only [Act.put, List.getElem_toArray, List.getElem_cons_zero, List.getElem_cons_succ, List.setIfInBounds_toArray, List.set_cons_zero, List.set_cons_succ]
    refine wpAnyH_take (i := 4) (v := ?_) rfl (by kernel_rfl) (by kernel_rfl) (by kernel_rfl) (fun _ _ _ h => h) (Or.inl ⟨by rfl, ?_⟩) (by assumption) ?_
    rotate_left
    · intro W hSw; (try dsimp only at hSw); go_simp; (try with_reducible rfl)
    try simp only [Act.put, List.getElem_toArray, List.getElem_cons_zero, List.getElem_cons_succ, List.setIfInBounds_toArray, List.set_cons_zero, List.set_cons_succ]
    refine wpAnyH_take (i := 5) (v := ?_) rfl (by kernel_rfl) (by kernel_rfl) (by kernel_rfl) (fun _ _ _ h => h) (Or.inl ⟨by rfl, ?_⟩) (by assumption) ?_
    rotate_left
    · intro W hSw; (try dsimp only at hSw); go_simp; (try with_reducible rfl)
    try simp only [Act.put, List.getElem_toArray, List.getElem_cons_zero, List.getElem_cons_succ, List.setIfInBounds_toArray, List.set_cons_zero, List.set_cons_succ]
    refine wpAnyH_take (i := 9) (v := ?_) rfl (by kernel_rfl) (by kernel_rfl) (by kernel_rfl) (fun _ _ _ h => h) (Or.inl ⟨by rfl, ?_⟩) (by assumption) ?_
    rotate_left
    · intro W hSw; (try dsimp only at hSw); go_simp; (try with_reducible rfl)
    try simp only [Act.put, List.getElem_toArray, List.getElem_cons_zero, List.getElem_cons_succ, List.setIfInBounds_toArray, List.set_cons_zero, List.set_cons_succ]
    refine wpAnyH_take (i := 2) (v := ?_) rfl (by kernel_rfl) (by kernel_rfl) (by kernel_rfl) (fun _ _ _ h => h) (Or.inl ⟨by rfl, ?_⟩) (by assumption) ?_
    rotate_left
    · intro W hSw; obtain ⟨s0, s1, s2, s3, s4, s5, s6, s7, s8, s9⟩ := kC.out W hSw; go_simp; (try with_reducible rfl)
    try simp only [Act.put, List.getElem_toArray, List.getElem_cons_zero, List.getElem_cons_succ, List.setIfInBounds_toArray, List.set_cons_zero, List.set_cons_succ]
    refine wpAnyH_take (i := 6) (v := ?_) rfl (by kernel_rfl) (by kernel_rfl) (by kernel_rfl) (fun _ _ _ h => h) (Or.inl ⟨by rfl, ?_⟩) (by assumption) ?_
    rotate_left
    · intro W hSw; obtain ⟨s0, s1, s2, s3, s4, s5, s6, s7, s8, s9⟩ := kC.out W hSw; go_simp; (try with_reducible rfl)
    try simp only [Act.put, List.getElem_toArray, List.getElem_cons_zero, List.getElem_cons_succ, List.setIfInBounds_toArray, List.set_cons_zero, List.set_cons_succ]
    refine wpAnyH_take (i := 10) (v := ?_) rfl (by kernel_rfl) (by kernel_rfl) (by kernel_rfl) (fun _ _ _ h => h) (Or.inl ⟨by rfl, ?_⟩) (by assumption) ?_
    rotate_left
    · intro W hSw; obtain ⟨s0, s1, s2, s3, s4, s5, s6, s7, s8, s9⟩ := kC.out W hSw; go_simp; (try with_reducible rfl)
    try simp only [Act.put, List.getElem_toArray, List.getElem_cons_zero, List.getElem_cons_succ, List.setIfInBounds_toArray, List.set_cons_zero, List.set_cons_succ]
    refine wpAnyH_ready (rs := [3]) (by kernel_rfl) (by simp) ?_
    refine AllReadyH.cons rfl (fun K hK => ?_) AllReadyH.nil
    go_simp
    (with_reducible refine (acc_call 10 (r6num_ok _ o.c (in64_mk (by omega) (by omega))) hM0.out (nb_len _)).mono ?_); rintro e12 w12 ⟨A12, n12, c12, rfl, z12, hm12, hM12⟩; dsimp only
    clear hm12
    replace z12 := Lib.hid z12
    replace hM12 := Lib.hid hM12
    go_wp2_with fail
    refine hK.out _ _ (hM12.out) (fun hHeld => ?_)
    clear hK K
    try simp only [Act.put, List.getElem_toArray, List.getElem_cons_zero, List.getElem_cons_succ, List.setIfInBounds_toArray, List.set_cons_zero, List.set_cons_succ]
    refine wpAnyH_ready (rs := [7]) (by kernel_rfl) (by simp) ?_
    refine AllReadyH.cons rfl (fun K hK => ?_) AllReadyH.nil
    go_simp
    (with_reducible refine (acc_call 10 (r6num_ok _ o.s (in64_mk (by omega) (by omega))) hM12.out (nb_len _)).mono ?_); rintro e16 w16 ⟨A16, n16, c16, rfl, z16, hm16, hM16⟩; dsimp only
    replace z12 := Lib.hid (z12.out.mod0 hm16)
    clear hm16
    replace z16 := Lib.hid z16
    replace hM16 := Lib.hid hM16
    go_wp2_with fail
    refine hK.out _ _ (hM16.out) (fun hHeld => ?_)
    clear hK K
    try simp only [Act.put, List.getElem_toArray, List.getElem_cons_zero, List.getElem_cons_succ, List.setIfInBounds_toArray, List.set_cons_zero, List.set_cons_succ]
    refine wpAnyH_ready (rs := [8]) (by kernel_rfl) (by simp) ?_
    refine AllReadyH.cons rfl (fun K hK => ?_) AllReadyH.nil
    refine step_acc rfl (.tmp 12) (.tmp 16) rfl hM16.out rfl z12.out rfl z16.out (by omega) ?_
    intro A17 n17 c17 w17 z17 hM17 _ _
    replace z17 := Lib.hid z17
    replace hM17 := Lib.hid hM17
    clear z12 z16
    refine hK.out _ _ (hM17.out) (fun hHeld => ?_)
    clear hK K
    try simp only [Act.put, List.getElem_toArray, List.getElem_cons_zero, List.getElem_cons_succ, List.setIfInBounds_toArray, List.set_cons_zero, List.set_cons_succ]
    refine wpAnyH_ready (rs := [11]) (by kernel_rfl) (by simp) ?_
    refine AllReadyH.cons rfl (fun K hK => ?_) AllReadyH.nil
    go_simp
    (with_reducible refine (acc_call 10 (r6num_ok _ o.k (in64_mk (by omega) (by omega))) hM17.out (nb_len _)).mono ?_); rintro e20 w20 ⟨A20, n20, c20, rfl, z20, hm20, hM20⟩; dsimp only
    replace z17 := Lib.hid (z17.out.mod0 hm20)
    clear hm20
    replace z20 := Lib.hid z20
    replace hM20 := Lib.hid hM20
    go_wp2_with fail
    refine hK.out _ _ (hM20.out) (fun hHeld => ?_)
    clear hK K
    try simp only [Act.put, List.getElem_toArray, List.getElem_cons_zero, List.getElem_cons_succ, List.setIfInBounds_toArray, List.set_cons_zero, List.set_cons_succ]
    refine wpAnyH_ready (rs := [12]) (by kernel_rfl) (by simp) ?_
    refine AllReadyH.cons rfl (fun K hK => ?_) AllReadyH.nil
    refine step_acc rfl (.tmp 17) (.tmp 20) rfl hM20.out rfl z17.out rfl z20.out (by omega) ?_
    intro A21 n21 c21 w21 z21 hM21 _ _
    replace z21 := Lib.hid z21
    replace hM21 := Lib.hid hM21
    clear z17 z20
    refine hK.out _ _ (hM21.out) (fun hHeld => ?_)
    clear hK K
    try simp only [Act.put, List.getElem_toArray, List.getElem_cons_zero, List.getElem_cons_succ, List.setIfInBounds_toArray, List.set_cons_zero, List.set_cons_succ]
    refine wpAnyH_take (i := 13) (v := ?_) rfl (by kernel_rfl) (by kernel_rfl) (by kernel_rfl) (fun _ _ _ h => h) (Or.inl ⟨by rfl, ?_⟩) (by assumption) ?_
    rotate_left
    · intro W hSw; (try dsimp only at hSw); go_simp; (try with_reducible rfl)
    try simp only [Act.put, List.getElem_toArray, List.getElem_cons_zero, List.getElem_cons_succ, List.setIfInBounds_toArray, List.set_cons_zero, List.set_cons_succ]
    refine wpAnyH_done (by kernel_rfl) ?_ _
    clear hHeld hM0 hM12 hM16 hM17 hM20
    go_wp2_with fail
    have hMa := Lib.hid (hM21.out.drew)
    have za := Lib.hid (z21.out.mod0 (Mod.refl none_ _).drew)
    clear z21
    refine wp_region_held_drew (S := fun W => Mod none_ w1 W) (by kernel_rfl) hMa.out (fun hHeld => ?_)
    refine wpAnyH_take (i := 0) (v := ?_) rfl (by kernel_rfl) (by kernel_rfl) (by kernel_rfl) (fun _ _ _ h => h) (Or.inl ⟨by rfl, ?_⟩) (by assumption) ?_
    rotate_left
    · intro W hSw; (try dsimp only at hSw); go_simp; (try with_reducible rfl)
    try simp only [Act.put, List.getElem_toArray, List.getElem_cons_zero, List.getElem_cons_succ, List.setIfInBounds_toArray, List.set_cons_zero, List.set_cons_succ]
    refine wpAnyH_take (i := 1) (v := ?_) rfl (by kernel_rfl) (by kernel_rfl) (by kernel_rfl) (fun _ _ _ h => h) (Or.inl ⟨by rfl, ?_⟩) (by assumption) ?_
    rotate_left
    · intro W hSw; (try dsimp only at hSw); go_simp; (try with_reducible rfl)
    try simp only [Act.put, List.getElem_toArray, List.getElem_cons_zero, List.getElem_cons_succ, List.setIfInBounds_toArray, List.set_cons_zero, List.set_cons_succ]
    refine wpAnyH_take (i := 5) (v := ?_) rfl (by kernel_rfl) (by kernel_rfl) (by kernel_rfl) (fun _ _ _ h => h) (Or.inl ⟨by rfl, ?_⟩) (by assumption) ?_
    rotate_left
    · intro W hSw; (try dsimp only at hSw); go_simp; (try with_reducible rfl)
    try simp only [Act.put, List.getElem_toArray, List.getElem_cons_zero, List.getElem_cons_succ, List.setIfInBounds_toArray, List.set_cons_zero, List.set_cons_succ]
    refine wpAnyH_take (i := 2) (v := ?_) rfl (by kernel_rfl) (by kernel_rfl) (by kernel_rfl) (fun _ _ _ h => h) (Or.inl ⟨by rfl, ?_⟩) (by assumption) ?_
    rotate_left
    · intro W hSw; obtain ⟨s0, s1, s2, s3, s4, s5, s6, s7, s8, s9⟩ := kC.out W hSw; go_simp; (try with_reducible rfl)
    try simp only [Act.put, List.getElem_toArray, List.getElem_cons_zero, List.getElem_cons_succ, List.setIfInBounds_toArray, List.set_cons_zero, List.set_cons_succ]
    refine wpAnyH_take (i := 6) (v := ?_) rfl (by kernel_rfl) (by kernel_rfl) (by kernel_rfl) (fun _ _ _ h => h) (Or.inl ⟨by rfl, ?_⟩) (by assumption) ?_
    rotate_left
    · intro W hSw; obtain ⟨s0, s1, s2, s3, s4, s5, s6, s7, s8, s9⟩ := kC.out W hSw; go_simp; (try with_reducible rfl)
    try simp only [Act.put, List.getElem_toArray, List.getElem_cons_zero, List.getElem_cons_succ, List.setIfInBounds_toArray, List.set_cons_zero, List.set_cons_succ]
    refine wpAnyH_ready (rs := [3]) (by kernel_rfl) (by simp) ?_
    refine AllReadyH.cons rfl (fun K hK => ?_) AllReadyH.nil
    go_simp
    (with_reducible refine (acc_call 18 (r2text_ok _ o.acct (by omega)) hMa.out (by have := txtB_len o.acct; omega)).mono ?_); rintro e25 w25 ⟨A25, n25, c25, rfl, z25, hm25, hM25⟩; dsimp only
    replace za := Lib.hid (za.out.mod0 hm25)
    clear hm25
    replace z25 := Lib.hid z25
    replace hM25 := Lib.hid hM25
    go_wp2_with fail
    refine hK.out _ _ (hM25.out) (fun hHeld => ?_)
    clear hK K
    try simp only [Act.put, List.getElem_toArray, List.getElem_cons_zero, List.getElem_cons_succ, List.setIfInBounds_toArray, List.set_cons_zero, List.set_cons_succ]
    refine wpAnyH_ready (rs := [4]) (by kernel_rfl) (by simp) ?_
    refine AllReadyH.cons rfl (fun K hK => ?_) AllReadyH.nil
    refine step_acc rfl (.tmp 22) (.tmp 25) rfl hM25.out rfl za.out rfl z25.out (by omega) ?_
    intro A26 n26 c26 w26 z26 hM26 _ _
    replace z26 := Lib.hid z26
    replace hM26 := Lib.hid hM26
    clear za z25
    refine hK.out _ _ (hM26.out) (fun hHeld => ?_)
    clear hK K
    try simp only [Act.put, List.getElem_toArray, List.getElem_cons_zero, List.getElem_cons_succ, List.setIfInBounds_toArray, List.set_cons_zero, List.set_cons_succ]
    refine wpAnyH_ready (rs := [7]) (by kernel_rfl) (by simp) ?_
    refine AllReadyH.cons rfl (fun K hK => ?_) AllReadyH.nil
    go_simp
    (with_reducible refine (acc_call 18 (r2text_ok _ o.peer (by omega)) hM26.out (by have := txtB_len o.peer; omega)).mono ?_); rintro e29 w29 ⟨A29, n29, c29, rfl, z29, hm29, hM29⟩; dsimp only
    replace z26 := Lib.hid (z26.out.mod0 hm29)
    clear hm29
    replace z29 := Lib.hid z29
    replace hM29 := Lib.hid hM29
    go_wp2_with fail
    refine hK.out _ _ (hM29.out) (fun hHeld => ?_)
    clear hK K
    try simp only [Act.put, List.getElem_toArray, List.getElem_cons_zero, List.getElem_cons_succ, List.setIfInBounds_toArray, List.set_cons_zero, List.set_cons_succ]
    refine wpAnyH_ready (rs := [8]) (by kernel_rfl) (by simp) ?_
    refine AllReadyH.cons rfl (fun K hK => ?_) AllReadyH.nil
    refine step_acc rfl (.tmp 26) (.tmp 29) rfl hM29.out rfl z26.out rfl z29.out (by omega) ?_
    intro A30 n30 c30 w30 z30 hM30 _ _
    replace z30 := Lib.hid z30
    replace hM30 := Lib.hid hM30
    clear z26 z29
    refine hK.out _ _ (hM30.out) (fun hHeld => ?_)
    clear hK K
    try simp only [Act.put, List.getElem_toArray, List.getElem_cons_zero, List.getElem_cons_succ, List.setIfInBounds_toArray, List.set_cons_zero, List.set_cons_succ]
    refine wpAnyH_take (i := 9) (v := ?_) rfl (by kernel_rfl) (by kernel_rfl) (by kernel_rfl) (fun _ _ _ h => h) (Or.inl ⟨by rfl, ?_⟩) (by assumption) ?_
    rotate_left
    · intro W hSw; (try dsimp only at hSw); go_simp; (try with_reducible rfl)
    try simp only [Act.put, List.getElem_toArray, List.getElem_cons_zero, List.getElem_cons_succ, List.setIfInBounds_toArray, List.set_cons_zero, List.set_cons_succ]
    refine wpAnyH_done (by kernel_rfl) ?_ _
    clear hHeld hMa hM21 hM25 hM26 hM29
    go_wp2_with fail
    have hMb := Lib.hid (hM30.out.drew)
    have zb := Lib.hid (z30.out.mod0 (Mod.refl none_ _).drew)
    clear z30
    refine wp_region_held_drew (S := fun W => Mod none_ w1 W) (by kernel_rfl) hMb.out (fun hHeld => ?_)
    refine wpAnyH_take (i := 0) (v := ?_) rfl (by kernel_rfl) (by kernel_rfl) (by kernel_rfl) (fun _ _ _ h => h) (Or.inl ⟨by rfl, ?_⟩) (by assumption) ?_
    rotate_left
    · intro W hSw; (try dsimp only at hSw); go_simp; (try with_reducible rfl)
    try simp only [Act.put, List.getElem_toArray, List.getElem_cons_zero, List.getElem_cons_succ, List.setIfInBounds_toArray, List.set_cons_zero, List.set_cons_succ]
    refine wpAnyH_take (i := 1) (v := ?_) rfl (by kernel_rfl) (by kernel_rfl) (by kernel_rfl) (fun _ _ _ h => h) (Or.inl ⟨by rfl, ?_⟩) (by assumption) ?_
    rotate_left
    · intro W hSw; (try dsimp only at hSw); go_simp; (try with_reducible rfl)
    try simp only [Act.put, List.getElem_toArray, List.getElem_cons_zero, List.getElem_cons_succ, List.setIfInBounds_toArray, List.set_cons_zero, List.set_cons_succ]
    refine wpAnyH_take (i := 5) (v := ?_) rfl (by kernel_rfl) (by kernel_rfl) (by kernel_rfl) (fun _ _ _ h => h) (Or.inl ⟨by rfl, ?_⟩) (by assumption) ?_
    rotate_left
    · intro W hSw; (try dsimp only at hSw); go_simp; (try with_reducible rfl)
    try simp only [Act.put, List.getElem_toArray, List.getElem_cons_zero, List.getElem_cons_succ, List.setIfInBounds_toArray, List.set_cons_zero, List.set_cons_succ]
    refine wpAnyH_take (i := 2) (v := ?_) rfl (by kernel_rfl) (by kernel_rfl) (by kernel_rfl) (fun _ _ _ h => h) (Or.inl ⟨by rfl, ?_⟩) (by assumption) ?_
    rotate_left
    · intro W hSw; obtain ⟨s0, s1, s2, s3, s4, s5, s6, s7, s8, s9⟩ := kC.out W hSw; go_simp; (try with_reducible rfl)
    try simp only [Act.put, List.getElem_toArray, List.getElem_cons_zero, List.getElem_cons_succ, List.setIfInBounds_toArray, List.set_cons_zero, List.set_cons_succ]
    refine wpAnyH_take (i := 6) (v := ?_) rfl (by kernel_rfl) (by kernel_rfl) (by kernel_rfl) (fun _ _ _ h => h) (Or.inl ⟨by rfl, ?_⟩) (by assumption) ?_
    rotate_left
    · intro W hSw; obtain ⟨s0, s1, s2, s3, s4, s5, s6, s7, s8, s9⟩ := kC.out W hSw; go_simp; (try with_reducible rfl)
    try simp only [Act.put, List.getElem_toArray, List.getElem_cons_zero, List.getElem_cons_succ, List.setIfInBounds_toArray, List.set_cons_zero, List.set_cons_succ]
    refine wpAnyH_take (i := 7) (v := ?_) rfl (by kernel_rfl) (by kernel_rfl) (by kernel_rfl) (fun _ _ _ h => h) (Or.inl ⟨by rfl, ?_⟩) (by assumption) ?_
    rotate_left
    · intro W hSw; (try dsimp only at hSw); go_simp; (try with_reducible rfl)
    try simp only [Act.put, List.getElem_toArray, List.getElem_cons_zero, List.getElem_cons_succ, List.setIfInBounds_toArray, List.set_cons_zero, List.set_cons_succ]
    refine wpAnyH_ready (rs := [3]) (by kernel_rfl) (by simp) ?_
    refine AllReadyH.cons rfl (fun K hK => ?_) AllReadyH.nil
    go_simp
    (with_reducible refine (acc_call 10 (r2numB_ok _ o.sum k6.out) hMb.out (nb_len _)).mono ?_); rintro e34 w34 ⟨A34, n34, c34, rfl, z34, hm34, hM34⟩; dsimp only
    replace zb := Lib.hid (zb.out.mod0 hm34)
    clear hm34
    replace z34 := Lib.hid z34
    replace hM34 := Lib.hid hM34
    go_wp2_with fail
    refine hK.out _ _ (hM34.out) (fun hHeld => ?_)
    clear hK K
    try simp only [Act.put, List.getElem_toArray, List.getElem_cons_zero, List.getElem_cons_succ, List.setIfInBounds_toArray, List.set_cons_zero, List.set_cons_succ]
    refine wpAnyH_ready (rs := [4]) (by kernel_rfl) (by simp) ?_
    refine AllReadyH.cons rfl (fun K hK => ?_) AllReadyH.nil
    refine step_acc rfl (.tmp 31) (.tmp 34) rfl hM34.out rfl zb.out rfl z34.out (by omega) ?_
    intro A35 n35 c35 w35 z35 hM35 _ _
    replace z35 := Lib.hid z35
    replace hM35 := Lib.hid hM35
    clear zb z34
    refine hK.out _ _ (hM35.out) (fun hHeld => ?_)
    clear hK K
    try simp only [Act.put, List.getElem_toArray, List.getElem_cons_zero, List.getElem_cons_succ, List.setIfInBounds_toArray, List.set_cons_zero, List.set_cons_succ]
    refine wpAnyH_ready (rs := [8]) (by kernel_rfl) (by simp) ?_
    refine AllReadyH.cons rfl (fun K hK => ?_) AllReadyH.nil
    go_simp
    (with_reducible refine (acc_call 10 (r6num_ok _ (L.n : Int) (in64_mk (by omega) (by omega))) hM35.out (nb_len _)).mono ?_); rintro e39 w39 ⟨A39, n39, c39, rfl, z39, hm39, hM39⟩; dsimp only
    replace z35 := Lib.hid (z35.out.mod0 hm39)
    clear hm39
    replace z39 := Lib.hid z39
    replace hM39 := Lib.hid hM39
    go_wp2_with fail
    refine hK.out _ _ (hM39.out) (fun hHeld => ?_)
    clear hK K
    try simp only [Act.put, List.getElem_toArray, List.getElem_cons_zero, List.getElem_cons_succ, List.setIfInBounds_toArray, List.set_cons_zero, List.set_cons_succ]
    refine wpAnyH_ready (rs := [9]) (by kernel_rfl) (by simp) ?_
    refine AllReadyH.cons rfl (fun K hK => ?_) AllReadyH.nil
    refine step_acc rfl (.tmp 35) (.tmp 39) rfl hM39.out rfl z35.out rfl z39.out (by omega) ?_
    intro A40 n40 c40 w40 z40 hM40 _ _
    replace z40 := Lib.hid z40
    replace hM40 := Lib.hid hM40
    clear z35 z39
    refine hK.out _ _ (hM40.out) (fun hHeld => ?_)
    clear hK K
    try simp only [Act.put, List.getElem_toArray, List.getElem_cons_zero, List.getElem_cons_succ, List.setIfInBounds_toArray, List.set_cons_zero, List.set_cons_succ]
    refine wpAnyH_take (i := 10) (v := ?_) rfl (by kernel_rfl) (by kernel_rfl) (by kernel_rfl) (fun _ _ _ h => h) (Or.inl ⟨by rfl, ?_⟩) (by assumption) ?_
    rotate_left
    · intro W hSw; (try dsimp only at hSw); go_simp; (try with_reducible rfl)
    try simp only [Act.put, List.getElem_toArray, List.getElem_cons_zero, List.getElem_cons_succ, List.setIfInBounds_toArray, List.set_cons_zero, List.set_cons_succ]
    refine wpAnyH_done (by kernel_rfl) ?_ _
    clear hHeld hMb hM30 hM34 hM35 hM39
    have hz5 := z40.out
    rw [show (L.n : Int) = (o.legs.length : Int) by rw [hlen.out], head6] at hz5
    replace hz5 := Lib.hid hz5
    clear z40
    obtain ⟨s0, s1, s2, s3, s4, s5, s6, s7, s8, s9⟩ := kC.out w40 hM40.out
    go_wp2_with fail
    clear s0 s1 s2 s3 s4 s5 s6 s7 s8 s9
    go_loopw [4, 5] (fun v x wr => ∃ j : Nat, x = .int .i64 j ∧ j ≤ L.n ∧ ∃ A n c, v = .slice A n c ∧ Acc w1 wr A n c (headO o ++ (o.legs.take j).flatMap legB) (86 + j * 28) ∧ Mod none_ w1 wr) (fun _ x _ => L.n - (intOf x).toNat)
    case atStart => exact ⟨0, rfl, by omega, A40, n40, c40, rfl, by simpa using hz5.out, hM40.out⟩
    case round =>
      obtain ⟨j, rfl, hj, A, n, c, rfl, hz4, hM⟩ := hrel
      obtain ⟨s0, s1, s2, s3, s4, s5, s6, s7, s8, s9⟩ := kC.out wr hM
      clear s0 s1 s2 s3 s4 s5 s7 s8 s9
      have hL6 : L.n ≤ 6 := by have := hlen.out; omega
      by_cases hlt : j < L.n
      · obtain ⟨b, p, l, hLa, hlm, hlj, x1, x2⟩ := rdl_get (w := w1) (hrd.out.mod0 hmm.out) hlt
        obtain ⟨hl8, hlx⟩ := k8.out l hlm
        replace hz4 := Lib.hid hz4
        replace hM := Lib.hid hM
        replace hlm := Lib.hid hlm
        replace hlx := Lib.hid hlx
        replace hlj := Lib.hid hlj
        replace hLa := Lib.hid hLa
        go_wp2_with fail
        have hMd := Lib.hid (hM.out.drew)
        have zd := Lib.hid (hz4.out.mod0 (Mod.refl none_ _).drew)
        clear hz4
        refine wp_region_held_drew (S := fun W => Mod none_ w1 W) (by kernel_rfl) hMd.out (fun hHeld => ?_)
        refine wpAnyH_take (i := 0) (v := ?_) rfl (by kernel_rfl) (by kernel_rfl) (by kernel_rfl) (fun _ _ _ h => h) (Or.inl ⟨by rfl, ?_⟩) (by assumption) ?_
        rotate_left
        · intro W hSw; (try dsimp only at hSw); go_simp; (try with_reducible rfl)
        try simp only [Act.put, List.getElem_toArray, List.getElem_cons_zero, List.getElem_cons_succ, List.setIfInBounds_toArray, List.set_cons_zero, List.set_cons_succ]
        refine wpAnyH_take (i := 1) (v := ?_) rfl (by kernel_rfl) (by kernel_rfl) (by kernel_rfl) (fun _ _ _ h => h) (Or.inl ⟨by rfl, ?_⟩) (by assumption) ?_
        rotate_left
        · intro W hSw; (try dsimp only at hSw); go_simp; (try with_reducible rfl)
        try simp only [Act.put, List.getElem_toArray, List.getElem_cons_zero, List.getElem_cons_succ, List.setIfInBounds_toArray, List.set_cons_zero, List.set_cons_succ]
        refine wpAnyH_take (i := 3) (v := ?_) rfl (by kernel_rfl) (by kernel_rfl) (by kernel_rfl) (fun _ _ _ h => h) (Or.inl ⟨by rfl, ?_⟩) (by assumption) ?_
        rotate_left
        · intro W hSw; (try dsimp only at hSw); go_simp; (try with_reducible rfl)
        try simp only [Act.put, List.getElem_toArray, List.getElem_cons_zero, List.getElem_cons_succ, List.setIfInBounds_toArray, List.set_cons_zero, List.set_cons_succ]
        refine wpAnyH_take (i := 9) (v := ?_) rfl (by kernel_rfl) (by kernel_rfl) (by kernel_rfl) (fun _ _ _ h => h) (Or.inl ⟨by rfl, ?_⟩) (by assumption) ?_
        rotate_left
        · intro W hSw; (try dsimp only at hSw); go_simp; (try with_reducible rfl)
        try simp only [Act.put, List.getElem_toArray, List.getElem_cons_zero, List.getElem_cons_succ, List.setIfInBounds_toArray, List.set_cons_zero, List.set_cons_succ]
        refine wpAnyH_take (i := 11) (v := ?_) rfl (by kernel_rfl) (by kernel_rfl) (by kernel_rfl) (fun _ _ _ h => h) (Or.inl ⟨by rfl, ?_⟩) (by assumption) ?_
        rotate_left
        · intro W hSw; (try dsimp only at hSw); go_simp; (try with_reducible rfl)
        try simp only [Act.put, List.getElem_toArray, List.getElem_cons_zero, List.getElem_cons_succ, List.setIfInBounds_toArray, List.set_cons_zero, List.set_cons_succ]
        refine wpAnyH_take (i := 2) (v := ?_) rfl (by kernel_rfl) (by kernel_rfl) (by kernel_rfl) (fun _ _ _ h => h) (Or.inl ⟨by rfl, ?_⟩) (by assumption) ?_
        rotate_left
        · intro W hSw; obtain ⟨s0, s1, s2, s3, s4, s5, s6, s7, s8, s9⟩ := kC.out W hSw; rw [hLa.out] at s6; have y1 := hSw.cell_some x1 (fun h => h); have y2 := hSw.cell_some x2 (fun h => h); go_simp; (try with_reducible rfl)
        try simp only [Act.put, List.getElem_toArray, List.getElem_cons_zero, List.getElem_cons_succ, List.setIfInBounds_toArray, List.set_cons_zero, List.set_cons_succ]
        refine wpAnyH_take (i := 10) (v := ?_) rfl (by kernel_rfl) (by kernel_rfl) (by kernel_rfl) (fun _ _ _ h => h) (Or.inl ⟨by rfl, ?_⟩) (by assumption) ?_
        rotate_left
        · intro W hSw; obtain ⟨s0, s1, s2, s3, s4, s5, s6, s7, s8, s9⟩ := kC.out W hSw; rw [hLa.out] at s6; have y1 := hSw.cell_some x1 (fun h => h); have y2 := hSw.cell_some x2 (fun h => h); go_simp; (try with_reducible rfl)
        try simp only [Act.put, List.getElem_toArray, List.getElem_cons_zero, List.getElem_cons_succ, List.setIfInBounds_toArray, List.set_cons_zero, List.set_cons_succ]
        refine wpAnyH_take (i := 4) (v := ?_) rfl (by kernel_rfl) (by kernel_rfl) (by kernel_rfl) (fun _ _ _ h => h) (Or.inl ⟨by rfl, ?_⟩) (by assumption) ?_
        rotate_left
        · intro W hSw; (try dsimp only at hSw); go_simp; (try with_reducible rfl)
        try simp only [Act.put, List.getElem_toArray, List.getElem_cons_zero, List.getElem_cons_succ, List.setIfInBounds_toArray, List.set_cons_zero, List.set_cons_succ]
        refine wpAnyH_take (i := 5) (v := ?_) rfl (by kernel_rfl) (by kernel_rfl) (by kernel_rfl) (fun _ _ _ h => h) (Or.inl ⟨by rfl, ?_⟩) (by assumption) ?_
        rotate_left
        · intro W hSw; (try dsimp only at hSw); go_simp; (try with_reducible rfl)
        try simp only [Act.put, List.getElem_toArray, List.getElem_cons_zero, List.getElem_cons_succ, List.setIfInBounds_toArray, List.set_cons_zero, List.set_cons_succ]
        refine wpAnyH_take (i := 12) (v := ?_) rfl (by kernel_rfl) (by kernel_rfl) (by kernel_rfl) (fun _ _ _ h => h) (Or.inl ⟨by rfl, ?_⟩) (by assumption) ?_
        rotate_left
        · intro W hSw; (try dsimp only at hSw); go_simp; (try with_reducible rfl)
        try simp only [Act.put, List.getElem_toArray, List.getElem_cons_zero, List.getElem_cons_succ, List.setIfInBounds_toArray, List.set_cons_zero, List.set_cons_succ]
        refine wpAnyH_take (i := 13) (v := ?_) rfl (by kernel_rfl) (by kernel_rfl) (by kernel_rfl) (fun _ _ _ h => h) (Or.inl ⟨by rfl, ?_⟩) (by assumption) ?_
        rotate_left
        · intro W hSw; (try dsimp only at hSw); go_simp; (try with_reducible rfl)
        try simp only [Act.put, List.getElem_toArray, List.getElem_cons_zero, List.getElem_cons_succ, List.setIfInBounds_toArray, List.set_cons_zero, List.set_cons_succ]
        refine wpAnyH_take (i := 6) (v := ?_) rfl (by kernel_rfl) (by kernel_rfl) (by kernel_rfl) (fun _ _ _ h => h) (Or.inl ⟨by rfl, ?_⟩) (by assumption) ?_
        rotate_left
        · intro W hSw; obtain ⟨s0, s1, s2, s3, s4, s5, s6, s7, s8, s9⟩ := kC.out W hSw; rw [hLa.out] at s6; have y1 := hSw.cell_some x1 (fun h => h); have y2 := hSw.cell_some x2 (fun h => h); go_simp; (try with_reducible rfl)
        try simp only [Act.put, List.getElem_toArray, List.getElem_cons_zero, List.getElem_cons_succ, List.setIfInBounds_toArray, List.set_cons_zero, List.set_cons_succ]
        refine wpAnyH_take (i := 14) (v := ?_) rfl (by kernel_rfl) (by kernel_rfl) (by kernel_rfl) (fun _ _ _ h => h) (Or.inl ⟨by rfl, ?_⟩) (by assumption) ?_
        rotate_left
        · intro W hSw; obtain ⟨s0, s1, s2, s3, s4, s5, s6, s7, s8, s9⟩ := kC.out W hSw; rw [hLa.out] at s6; have y1 := hSw.cell_some x1 (fun h => h); have y2 := hSw.cell_some x2 (fun h => h); go_simp; (try with_reducible rfl)
        try simp only [Act.put, List.getElem_toArray, List.getElem_cons_zero, List.getElem_cons_succ, List.setIfInBounds_toArray, List.set_cons_zero, List.set_cons_succ]
        refine wpAnyH_ready (rs := [7]) (by kernel_rfl) (by simp) ?_
        refine AllReadyH.cons rfl (fun K hK => ?_) AllReadyH.nil
        go_simp
        (with_reducible refine (acc_call 18 (r2text_ok _ l.n (by omega)) hMd.out (by have := txtB_len l.n; omega)).mono ?_); rintro e55 w55 ⟨A55, n55, c55, rfl, z55, hm55, hM55⟩; dsimp only
        replace zd := Lib.hid (zd.out.mod0 hm55)
        clear hm55
        replace z55 := Lib.hid z55
        replace hM55 := Lib.hid hM55
        go_wp2_with fail
        refine hK.out _ _ (hM55.out) (fun hHeld => ?_)
        clear hK K
        try simp only [Act.put, List.getElem_toArray, List.getElem_cons_zero, List.getElem_cons_succ, List.setIfInBounds_toArray, List.set_cons_zero, List.set_cons_succ]
        refine wpAnyH_ready (rs := [8]) (by kernel_rfl) (by simp) ?_
        refine AllReadyH.cons rfl (fun K hK => ?_) AllReadyH.nil
        refine step_acc rfl (.tmp 48) (.tmp 55) rfl hM55.out rfl zd.out rfl z55.out (by omega) ?_
        intro A56 n56 c56 w56 z56 hM56 _ _
        replace z56 := Lib.hid z56
        replace hM56 := Lib.hid hM56
        clear zd z55
        refine hK.out _ _ (hM56.out) (fun hHeld => ?_)
        clear hK K
        try simp only [Act.put, List.getElem_toArray, List.getElem_cons_zero, List.getElem_cons_succ, List.setIfInBounds_toArray, List.set_cons_zero, List.set_cons_succ]
        refine wpAnyH_ready (rs := [15]) (by kernel_rfl) (by simp) ?_
        refine AllReadyH.cons rfl (fun K hK => ?_) AllReadyH.nil
        go_simp
        (with_reducible refine (acc_call 10 (r2numB_ok _ l.x hlx.out) hM56.out (nb_len _)).mono ?_); rintro e63 w63 ⟨A63, n63, c63, rfl, z63, hm63, hM63⟩; dsimp only
        replace z56 := Lib.hid (z56.out.mod0 hm63)
        clear hm63
        replace z63 := Lib.hid z63
        replace hM63 := Lib.hid hM63
        go_wp2_with fail
        refine hK.out _ _ (hM63.out) (fun hHeld => ?_)
        clear hK K
        try simp only [Act.put, List.getElem_toArray, List.getElem_cons_zero, List.getElem_cons_succ, List.setIfInBounds_toArray, List.set_cons_zero, List.set_cons_succ]
        refine wpAnyH_ready (rs := [16]) (by kernel_rfl) (by simp) ?_
        refine AllReadyH.cons rfl (fun K hK => ?_) AllReadyH.nil
        refine step_acc rfl (.tmp 56) (.tmp 63) rfl hM63.out rfl z56.out rfl z63.out (by omega) ?_
        intro A64 n64 c64 w64 z64 hM64 _ _
        replace z64 := Lib.hid z64
        replace hM64 := Lib.hid hM64
        clear z56 z63
        refine hK.out _ _ (hM64.out) (fun hHeld => ?_)
        clear hK K
        try simp only [Act.put, List.getElem_toArray, List.getElem_cons_zero, List.getElem_cons_succ, List.setIfInBounds_toArray, List.set_cons_zero, List.set_cons_succ]
        refine wpAnyH_take (i := 17) (v := ?_) rfl (by kernel_rfl) (by kernel_rfl) (by kernel_rfl) (fun _ _ _ h => h) (Or.inl ⟨by rfl, ?_⟩) (by assumption) ?_
        rotate_left
        · intro W hSw; (try dsimp only at hSw); go_simp; (try with_reducible rfl)
        try simp only [Act.put, List.getElem_toArray, List.getElem_cons_zero, List.getElem_cons_succ, List.setIfInBounds_toArray, List.set_cons_zero, List.set_cons_succ]
        refine wpAnyH_done (by kernel_rfl) ?_ _
        clear hHeld hMd hM55 hM56 hM63
        go_wp2_with fail
        go_roundw
        case rel => exact ⟨j + 1, by go_num, by omega, A64, n64, c64, rfl, by rw [← leg6 hlj.out]; exact ⟨z64.out.ow, z64.out.fr, by have := z64.out.le; omega⟩, hM64.out⟩
        case measure => simp [intOf]; omega
      · have hjl : j = L.n := by omega
        subst hjl
        rw [List.take_of_length_le (by have := hlen.out; omega)] at hz4
        replace hz4 := Lib.hid hz4
        replace hM := Lib.hid hM
        go_wp2_with fail
        have hMe := Lib.hid (hM.out.drew)
        have ze := Lib.hid (hz4.out.mod0 (Mod.refl none_ _).drew)
        clear hz4
        refine wp_region_held_drew (S := fun W => Mod none_ w1 W) (by kernel_rfl) hMe.out (fun hHeld => ?_)
        refine wpAnyH_take (i := 0) (v := ?_) rfl (by kernel_rfl) (by kernel_rfl) (by kernel_rfl) (fun _ _ _ h => h) (Or.inl ⟨by rfl, ?_⟩) (by assumption) ?_
        rotate_left
        · intro W hSw; (try dsimp only at hSw); go_simp; (try with_reducible rfl)
        try simp only [Act.put, List.getElem_toArray, List.getElem_cons_zero, List.getElem_cons_succ, List.setIfInBounds_toArray, List.set_cons_zero, List.set_cons_succ]
        refine wpAnyH_take (i := 1) (v := ?_) rfl (by kernel_rfl) (by kernel_rfl) (by kernel_rfl) (fun _ _ _ h => h) (Or.inl ⟨by rfl, ?_⟩) (by assumption) ?_
        rotate_left
        · intro W hSw; (try dsimp only at hSw); go_simp; (try with_reducible rfl)
        try simp only [Act.put, List.getElem_toArray, List.getElem_cons_zero, List.getElem_cons_succ, List.setIfInBounds_toArray, List.set_cons_zero, List.set_cons_succ]
        refine wpAnyH_take (i := 5) (v := ?_) rfl (by kernel_rfl) (by kernel_rfl) (by kernel_rfl) (fun _ _ _ h => h) (Or.inl ⟨by rfl, ?_⟩) (by assumption) ?_
        rotate_left
        · intro W hSw; (try dsimp only at hSw); go_simp; (try with_reducible rfl)
        try simp only [Act.put, List.getElem_toArray, List.getElem_cons_zero, List.getElem_cons_succ, List.setIfInBounds_toArray, List.set_cons_zero, List.set_cons_succ]
        refine wpAnyH_take (i := 2) (v := ?_) rfl (by kernel_rfl) (by kernel_rfl) (by kernel_rfl) (fun _ _ _ h => h) (Or.inl ⟨by rfl, ?_⟩) (by assumption) ?_
        rotate_left
        · intro W hSw; obtain ⟨s0, s1, s2, s3, s4, s5, s6, s7, s8, s9⟩ := kC.out W hSw; go_simp; (try with_reducible rfl)
        try simp only [Act.put, List.getElem_toArray, List.getElem_cons_zero, List.getElem_cons_succ, List.setIfInBounds_toArray, List.set_cons_zero, List.set_cons_succ]
        refine wpAnyH_take (i := 6) (v := ?_) rfl (by kernel_rfl) (by kernel_rfl) (by kernel_rfl) (fun _ _ _ h => h) (Or.inl ⟨by rfl, ?_⟩) (by assumption) ?_
        rotate_left
        · intro W hSw; obtain ⟨s0, s1, s2, s3, s4, s5, s6, s7, s8, s9⟩ := kC.out W hSw; go_simp; (try with_reducible rfl)
        try simp only [Act.put, List.getElem_toArray, List.getElem_cons_zero, List.getElem_cons_succ, List.setIfInBounds_toArray, List.set_cons_zero, List.set_cons_succ]
        refine wpAnyH_ready (rs := [3]) (by kernel_rfl) (by simp) ?_
        refine AllReadyH.cons rfl (fun K hK => ?_) AllReadyH.nil
        go_simp
        (with_reducible refine (acc_call 10 (r6num_ok _ o.per (in64_mk (by omega) (by omega))) hMe.out (nb_len _)).mono ?_); rintro e68 w68 ⟨A68, n68, c68, rfl, z68, hm68, hM68⟩; dsimp only
        replace ze := Lib.hid (ze.out.mod0 hm68)
        clear hm68
        replace z68 := Lib.hid z68
        replace hM68 := Lib.hid hM68
        go_wp2_with fail
        refine hK.out _ _ (hM68.out) (fun hHeld => ?_)
        clear hK K
        try simp only [Act.put, List.getElem_toArray, List.getElem_cons_zero, List.getElem_cons_succ, List.setIfInBounds_toArray, List.set_cons_zero, List.set_cons_succ]
        refine wpAnyH_ready (rs := [4]) (by kernel_rfl) (by simp) ?_
        refine AllReadyH.cons rfl (fun K hK => ?_) AllReadyH.nil
        refine step_acc rfl (.tmp 65) (.tmp 68) rfl hM68.out rfl ze.out rfl z68.out (by omega) ?_
        intro A69 n69 c69 w69 z69 hM69 _ _
        replace z69 := Lib.hid z69
        replace hM69 := Lib.hid hM69
        clear ze z68
        refine hK.out _ _ (hM69.out) (fun hHeld => ?_)
        clear hK K
        try simp only [Act.put, List.getElem_toArray, List.getElem_cons_zero, List.getElem_cons_succ, List.setIfInBounds_toArray, List.set_cons_zero, List.set_cons_succ]
        refine wpAnyH_ready (rs := [7]) (by kernel_rfl) (by simp) ?_
        refine AllReadyH.cons rfl (fun K hK => ?_) AllReadyH.nil
        go_simp
        (with_reducible refine (acc_call 10 (r6num_ok _ o.hold (in64_mk (by omega) (by omega))) hM69.out (nb_len _)).mono ?_); rintro e72 w72 ⟨A72, n72, c72, rfl, z72, hm72, hM72⟩; dsimp only
        replace z69 := Lib.hid (z69.out.mod0 hm72)
        clear hm72
        replace z72 := Lib.hid z72
        replace hM72 := Lib.hid hM72
        go_wp2_with fail
        refine hK.out _ _ (hM72.out) (fun hHeld => ?_)
        clear hK K
        try simp only [Act.put, List.getElem_toArray, List.getElem_cons_zero, List.getElem_cons_succ, List.setIfInBounds_toArray, List.set_cons_zero, List.set_cons_succ]
        refine wpAnyH_ready (rs := [8]) (by kernel_rfl) (by simp) ?_
        refine AllReadyH.cons rfl (fun K hK => ?_) AllReadyH.nil
        refine step_acc rfl (.tmp 69) (.tmp 72) rfl hM72.out rfl z69.out rfl z72.out (by omega) ?_
        intro A73 n73 c73 w73 z73 hM73 _ _
        replace z73 := Lib.hid z73
        replace hM73 := Lib.hid hM73
        clear z69 z72
        refine hK.out _ _ (hM73.out) (fun hHeld => ?_)
        clear hK K
        try simp only [Act.put, List.getElem_toArray, List.getElem_cons_zero, List.getElem_cons_succ, List.setIfInBounds_toArray, List.set_cons_zero, List.set_cons_succ]
        refine wpAnyH_take (i := 9) (v := ?_) rfl (by kernel_rfl) (by kernel_rfl) (by kernel_rfl) (fun _ _ _ h => h) (Or.inl ⟨by rfl, ?_⟩) (by assumption) ?_
        rotate_left
        · intro W hSw; (try dsimp only at hSw); go_simp; (try with_reducible rfl)
        try simp only [Act.put, List.getElem_toArray, List.getElem_cons_zero, List.getElem_cons_succ, List.setIfInBounds_toArray, List.set_cons_zero, List.set_cons_succ]
        refine wpAnyH_done (by kernel_rfl) ?_ _
        clear hHeld hMe hM68 hM69 hM72
        obtain ⟨s0, s1, s2, s3, s4, s5, s6, s7, s8, s9⟩ := kC.out w73 hM73.out
        clear s0 s1 s2 s3 s4 s5 s6 s7 s8
        go_wp2_with fail
        (with_reducible refine (acc_call 30 (r2text_ok _ o.note (by omega)) hM73.out (by have := txtB_len o.note; omega)).mono ?_); rintro e77 w77 ⟨A77, n77, c77, rfl, z77, hm77, hM77⟩; dsimp only
        replace z73 := Lib.hid (z73.out.mod0 hm77)
        replace z77 := Lib.hid z77
        replace hM77 := Lib.hid hM77
        clear hm77 s9
        go_wp2_with (at_builtin; go_loud (refine app_acc rfl (.tmp 74) (.tmp 77) rfl hM77.out rfl z73.out rfl z77.out (by omega) ?_; intro A78 n78 c78 w78 z78 hM78 _; replace z78 := Lib.hid z78; replace hM78 := Lib.hid hM78))
        have hz9 := z78.out
        rw [all6] at hz9
        have hlz := hz9.len
        subst hlz
        replace hz9 := Lib.hid hz9
        go_ret2
        exact .inl ⟨hr.out, A78, c78, rfl, hz9.out.ow, fun a ha => Nat.le_trans hmm.out.size (hz9.out.fr a ha), hmm.out.trans hM78.out⟩
end Go.Proofs.YtimlfdihodoolaaGreat
