import Derived.Test.YtdekehhmjehicaaFp10
import Derived.Test.YtdekehhmjehicaaFp5
import Derived.Test.YtdekehhmjehicaaFp1
/-
  post.Bytes. No condition.
-/
namespace Go.Proofs.Ytdekehhmjehicaa
set_option linter.unusedVariables false
set_option linter.unusedSimpArgs false
open Go.RowKit
theorem mgS_of {W : World} {g : Nat} {t : TypeId} {m : Mg} {L D : SV} (h : Blk W g t #[.int .i64 m.frm, .int .i64 m.to, .int .i64 m.kind, .int .i64 m.r.i.r, .int .i64 m.r.i.n, .int .i64 m.r.bal, .int .i64 m.r.st, .int .i64 m.r.by_, .int .i64 m.r.e.o.c, .int .i64 m.r.e.o.s, .int .i64 m.r.e.o.k, .string (txt m.r.e.o.acct), .string (txt m.r.e.o.peer), .int .i64 m.r.e.o.sum, .slice L.a L.n L.c, .int .i64 m.r.e.o.per, .int .i64 m.r.e.o.hold, .string (txt m.r.e.o.note), .bool m.r.e.none, .slice D.a D.n D.c]) :
    W.cell? ⟨g, 0, none⟩ = some (.int .i64 m.frm) ∧ W.cell? ⟨g, 1, none⟩ = some (.int .i64 m.to) ∧ W.cell? ⟨g, 2, none⟩ = some (.int .i64 m.kind) ∧ W.cell? ⟨g, 5, none⟩ = some (.int .i64 m.r.bal) := ⟨h.cell_ rfl, h.cell_ rfl, h.cell_ rfl, h.cell_ rfl⟩
set_option maxRecDepth 100000 in
set_option maxHeartbeats 8000000 in
theorem postBytes_ok (w : World) (m : Mg) (L D : SV) (hE : EnM w m.r.e L D) (hL : L.n ≤ 140737488355328) (hD : D.n ≤ 140737488355328) (hk : (Lit.int .i64 m.r.e.o.k).wf = true) (hz : ∀ l ∈ m.r.e.o.legs, (txt l.n).size ≤ maxLen) (hn : numsE m.r.e) :
    Calls Try.prog 8 #[.agg #[.int .i64 m.frm, .int .i64 m.to, .int .i64 m.kind, .int .i64 m.r.i.r, .int .i64 m.r.i.n, .int .i64 m.r.bal, .int .i64 m.r.st, .int .i64 m.r.by_, .int .i64 m.r.e.o.c, .int .i64 m.r.e.o.s, .int .i64 m.r.e.o.k, .string (txt m.r.e.o.acct), .string (txt m.r.e.o.peer), .int .i64 m.r.e.o.sum, .slice L.a L.n L.c, .int .i64 m.r.e.o.per, .int .i64 m.r.e.o.hold, .string (txt m.r.e.o.note), .bool m.r.e.none, .slice D.a D.n D.c]] w (BPost w (rightM m) (msgB m)) := by
  have hB := Blk.new w 40 #[.int .i64 m.frm, .int .i64 m.to, .int .i64 m.kind, .int .i64 m.r.i.r, .int .i64 m.r.i.n, .int .i64 m.r.bal, .int .i64 m.r.st, .int .i64 m.r.by_, .int .i64 m.r.e.o.c, .int .i64 m.r.e.o.s, .int .i64 m.r.e.o.k, .string (txt m.r.e.o.acct), .string (txt m.r.e.o.peer), .int .i64 m.r.e.o.sum, .slice L.a L.n L.c, .int .i64 m.r.e.o.per, .int .i64 m.r.e.o.hold, .string (txt m.r.e.o.note), .bool m.r.e.none, .slice D.a D.n D.c]
  have hm0 := (Mod.refl none_ w).alloc (.cells #[.int .i64 m.frm, .int .i64 m.to, .int .i64 m.kind, .int .i64 m.r.i.r, .int .i64 m.r.i.n, .int .i64 m.r.bal, .int .i64 m.r.st, .int .i64 m.r.by_, .int .i64 m.r.e.o.c, .int .i64 m.r.e.o.s, .int .i64 m.r.e.o.k, .string (txt m.r.e.o.acct), .string (txt m.r.e.o.peer), .int .i64 m.r.e.o.sum, .slice L.a L.n L.c, .int .i64 m.r.e.o.per, .int .i64 m.r.e.o.hold, .string (txt m.r.e.o.note), .bool m.r.e.none, .slice D.a D.n D.c] 40)
  have kR := Lib.hid (rightM_ok _ m L D (hE.mod0 hm0) hL hD hk hz)
  have kW := Lib.hid (fun W => whole_ok W m L D)
  have kBa := Lib.hid (fun W => bareM_ok W m L D)
  have kL := Lib.hid (fun W (h : Mod none_ w W) => logBytes_ok W m.r L D (hE.mod0 h) hL hD hk hz hn)
  have kL2 : Hid (∀ W, Mod none_ w W → Calls Try.prog 22 #[.agg #[.int .i64 m.r.i.r, .int .i64 m.r.i.n, .int .i64 0, .int .i64 3, .int .i64 0, .int .i64 m.r.e.o.c, .int .i64 m.r.e.o.s, .int .i64 m.r.e.o.k, .string (txt m.r.e.o.acct), .string (txt m.r.e.o.peer), .int .i64 m.r.e.o.sum, .slice L.a L.n L.c, .int .i64 m.r.e.o.per, .int .i64 m.r.e.o.hold, .string (txt m.r.e.o.note), .bool m.r.e.none, .slice D.a D.n D.c]] W (BPost W (rightR (bareR m.r)) (recB (bareR m.r)))) := Lib.hid (fun W h => logBytes_ok W (bareR m.r) L D (hE.mod0 h) hL hD hk hz hn)
  replace hB := Lib.hid hB
  replace hm0 := Lib.hid hm0
  replace hz := Lib.hid hz
  replace hE := Lib.hid hE
  go_enter Try.func8, Try.ntmps8
  go_wp2_with (refine wpList_load_row rfl 40 (.tmp 1) rfl w.heap.size rfl _ _ _ _ hB.out Try.underlying40 rfl msg_size ?_)
  with_reducible refine kR.out.mono ?_
  rintro e w1 ⟨rfl, hm1⟩
  dsimp only
  cases hr : rightM m with
  | false =>
    replace hr := Lib.hid hr
    replace hm1 := Lib.hid hm1
    go_wp2_with fail
    go_ret2
    exact .inr ⟨hr.out, rfl, hm0.out.trans hm1.out⟩
  | true =>
    obtain ⟨⟨k1, k1'⟩, ⟨k2, k2'⟩, ⟨k3, k3'⟩, k4⟩ := rightM_ends hr
    have hB1 := Lib.hid (hB.out.mod hm1 (fun h => h))
    have hmm := Lib.hid (hm0.out.trans hm1)
    clear hB hm1 hm0 kR
    replace hr := Lib.hid hr
    replace k4 := Lib.hid k4
    go_wp2_with (refine wpList_load_row rfl 40 (.tmp 1) rfl w.heap.size rfl _ _ _ _ hB1.out Try.underlying40 rfl msg_size ?_)
    with_reducible refine (kW.out _).mono ?_
    rintro e w2 ⟨rfl, hm2⟩
    dsimp only
    have hB2 := Lib.hid (hB1.out.mod hm2 (fun h => h))
    have hmm2 := Lib.hid (hmm.out.trans hm2)
    clear hm2 hB1 hmm
    go_wp2_with fail
    with_reducible refine (kL.out _ hmm2.out).mono ?_
    rintro e w3 hpost
    cases hrr : rightR m.r with
    | true =>
      obtain ⟨A3, c3, rfl, ho3, hf3, hm3⟩ : ∃ A c, e = .returned (.tuple #[.slice A (recB m.r).length c, .int .i64 0]) ∧ OwB w3 5 A (recB m.r).length c (recB m.r) ∧ Fresh w2 A ∧ Mod none_ w2 w3 := by
        rcases hpost with ⟨_, h⟩ | ⟨h, _⟩
        · exact h
        · rw [hrr] at h; cases h
      dsimp only
      have hrl := recB_len (rightR_okRc hrr hn)
      have hmsg : Hid (msgB m = (nb m.frm ++ (nb m.to ++ (nb m.kind ++ nb 1))) ++ txtB (recB m.r)) := Lib.hid (by unfold msgB; rw [hrr, if_pos rfl]; simp)
      have zx := Lib.hid (ByAt.of_ow ho3 (by omega))
      have hB3 := Lib.hid (hB2.out.mod hm3 (fun h => h))
      have hmm3 := Lib.hid (hmm2.out.trans hm3)
      generalize hgo : (recB m.r).length = n3 at *
      clear hpost ho3 hf3 hm3 hB2 hmm2 hrr
      replace hgo := Lib.hid hgo
      replace hn := Lib.hid hn
      go_wp2_with fail
      have hM0 := Lib.hid ((Mod.refl none_ w3).drew)
      have kC3 := Lib.hid (fun W (h : Mod none_ w3 W) => ByAt.conv (zx.out.mod0 h))
      dsimp only at kC3
      have kC := Lib.hid (fun W (h : Mod none_ w3 W) => mgS_of (hB3.out.mod h (fun h => h)))
      refine wp_region_held_drew (S := fun W => Mod none_ w3 W) (by kernel_rfl) hM0.out (fun hHeld => ?_)
      refine wpAnyH_take (i := 0) (v := ?_) rfl (by kernel_rfl) (by kernel_rfl) (by kernel_rfl) (fun _ _ _ h => h) (Or.inl ⟨by rfl, ?_⟩) (by assumption) ?_
      rotate_left
      · intro W hSw; (try dsimp only at hSw); go_simp; (try with_reducible rfl)
      try simp only [Act.put, List.getElem_toArray, List.getElem_cons_zero, List.getElem_cons_succ, List.setIfInBounds_toArray, List.set_cons_zero, List.set_cons_succ]
      refine wpAnyH_take (i := 2) (v := ?_) rfl (by kernel_rfl) (by kernel_rfl) (by kernel_rfl) (fun _ _ _ h => h) (Or.inl ⟨by rfl, ?_⟩) (by assumption) ?_
      rotate_left
      · intro W hSw; (try dsimp only at hSw); go_simp; (try with_reducible rfl)
      try simp only [Act.put, List.getElem_toArray, List.getElem_cons_zero, List.getElem_cons_succ, List.setIfInBounds_toArray, List.set_cons_zero, List.set_cons_succ]
      refine wpAnyH_take (i := 4) (v := ?_) rfl (by kernel_rfl) (by kernel_rfl) (by kernel_rfl) (fun _ _ _ h => h) (Or.inl ⟨by rfl, ?_⟩) (by assumption) ?_
      rotate_left
      · intro W hSw; (try dsimp only at hSw); go_simp; (try with_reducible rfl)
      try simp only [Act.put, List.getElem_toArray, List.getElem_cons_zero, List.getElem_cons_succ, List.setIfInBounds_toArray, List.set_cons_zero, List.set_cons_succ]
      refine wpAnyH_take (i := 8) (v := ?_) rfl (by kernel_rfl) (by kernel_rfl) (by kernel_rfl) (fun _ _ _ h => h) (Or.inl ⟨by rfl, ?_⟩) (by assumption) ?_
      rotate_left
      · intro W hSw; (try dsimp only at hSw); go_simp; (try with_reducible rfl)
      try simp only [Act.put, List.getElem_toArray, List.getElem_cons_zero, List.getElem_cons_succ, List.setIfInBounds_toArray, List.set_cons_zero, List.set_cons_succ]
      refine wpAnyH_take (i := 1) (v := ?_) rfl (by kernel_rfl) (by kernel_rfl) (by kernel_rfl) (fun _ _ _ h => h) (Or.inl ⟨by rfl, ?_⟩) (by assumption) ?_
      rotate_left
      · intro W hSw; obtain ⟨s0, s1, s2, s5⟩ := kC.out W hSw; go_simp; (try with_reducible rfl)
      try simp only [Act.put, List.getElem_toArray, List.getElem_cons_zero, List.getElem_cons_succ, List.setIfInBounds_toArray, List.set_cons_zero, List.set_cons_succ]
      refine wpAnyH_take (i := 3) (v := ?_) rfl (by kernel_rfl) (by kernel_rfl) (by kernel_rfl) (fun _ _ _ h => h) (Or.inl ⟨by rfl, ?_⟩) (by assumption) ?_
      rotate_left
      · intro W hSw; obtain ⟨s0, s1, s2, s5⟩ := kC.out W hSw; go_simp; (try with_reducible rfl)
      try simp only [Act.put, List.getElem_toArray, List.getElem_cons_zero, List.getElem_cons_succ, List.setIfInBounds_toArray, List.set_cons_zero, List.set_cons_succ]
      refine wpAnyH_take (i := 5) (v := ?_) rfl (by kernel_rfl) (by kernel_rfl) (by kernel_rfl) (fun _ _ _ h => h) (Or.inl ⟨by rfl, ?_⟩) (by assumption) ?_
      rotate_left
      · intro W hSw; obtain ⟨s0, s1, s2, s5⟩ := kC.out W hSw; go_simp; (try with_reducible rfl)
      try simp only [Act.put, List.getElem_toArray, List.getElem_cons_zero, List.getElem_cons_succ, List.setIfInBounds_toArray, List.set_cons_zero, List.set_cons_succ]
      refine wpAnyH_take (i := 9) (v := ?_) rfl (by kernel_rfl) (by kernel_rfl) (by kernel_rfl) (fun _ _ _ h => h) (Or.inl ⟨by rfl, ?_⟩) (by assumption) ?_
      rotate_left
      · intro W hSw; have hcv := kC3.out W hSw; go_simp; (try with_reducible rfl)
      try simp only [Act.put, List.getElem_toArray, List.getElem_cons_zero, List.getElem_cons_succ, List.setIfInBounds_toArray, List.set_cons_zero, List.set_cons_succ]
      refine wpAnyH_ready (rs := [6]) (by kernel_rfl) (by simp) ?_
      refine AllReadyH.cons rfl (fun K hK => ?_) AllReadyH.nil
      go_simp
      refine hK.out _ _ (((Mod.refl none_ w3).alloc (.cells #[.int .i64 m.frm, .int .i64 m.to, .int .i64 m.kind, .int .i64 1] 3)).drew) (fun hHeld => ?_)
      clear hK K
      try simp only [Act.put, List.getElem_toArray, List.getElem_cons_zero, List.getElem_cons_succ, List.setIfInBounds_toArray, List.set_cons_zero, List.set_cons_succ]
      have kn := pnums_ok (w3.alloc (.cells #[.int .i64 m.frm, .int .i64 m.to, .int .i64 m.kind, .int .i64 1] 3)).drew (some ⟨w3.heap.size, 0, none⟩) 4 4 [m.frm, m.to, m.kind, 1] (rdi_row w3 3 _ rfl [m.frm, m.to, m.kind, 1]) (by omega) (fun x hx => by simp at hx; rcases hx with rfl | rfl | rfl | rfl <;> exact in64_mk (by omega) (by omega))
      have hfl7 : [m.frm, m.to, m.kind, 1].flatMap nb = nb m.frm ++ (nb m.to ++ (nb m.kind ++ nb 1)) := by simp
      rw [hfl7] at kn
      refine wpAnyH_ready (rs := [7]) (by kernel_rfl) (by simp) ?_
      refine AllReadyH.cons rfl (fun K hK => ?_) AllReadyH.nil
      go_simp
      (with_reducible refine kn.mono ?_); rintro e2 w7 ⟨A7, c7, rfl, ho7, hf7, hm7⟩; dsimp only
      have hM7 := Lib.hid ((((Mod.refl none_ w3).alloc (.cells #[.int .i64 m.frm, .int .i64 m.to, .int .i64 m.kind, .int .i64 1] 3)).drew).trans hm7)
      have hl7 : (nb m.frm ++ (nb m.to ++ (nb m.kind ++ nb 1))).length ≤ 100 := by
        have := nb_len m.frm
        have := nb_len m.to
        have := nb_len m.kind
        have := nb_len 0
        have := nb_len 1
        have := nb_len m.r.bal
        simp only [List.length_append]; omega
      obtain ⟨p7, hp7⟩ : ∃ p7, p7 = nb m.frm ++ (nb m.to ++ (nb m.kind ++ nb 1)) := ⟨_, rfl⟩
      rw [← hp7] at ho7 hl7 ⊢
      have z7 := Lib.hid (ByAt.of_ow ho7 (by omega))
      clear kn hm7 hf7 ho7 hfl7
      replace hp7 := Lib.hid hp7
      go_wp2_with fail
      refine hK.out _ _ (hM7.out) (fun hHeld => ?_)
      clear hK K
      try simp only [Act.put, List.getElem_toArray, List.getElem_cons_zero, List.getElem_cons_succ, List.setIfInBounds_toArray, List.set_cons_zero, List.set_cons_succ]
      refine wpAnyH_ready (rs := [10]) (by kernel_rfl) (by simp) ?_
      refine AllReadyH.cons rfl (fun K hK => ?_) AllReadyH.nil
      go_simp
      (with_reducible refine (text_ok _ (recB m.r) (by have := hgo.out; omega)).mono ?_); rintro e2 w8 ⟨A8, c8, rfl, ho8, hf8, hm8⟩; dsimp only
      have hM8 := Lib.hid (hM7.out.trans hm8)
      replace z7 := Lib.hid (z7.out.mod0 hm8)
      have htl := txtB_len (recB m.r)
      have z8 := Lib.hid (ByAt.of_ow ho8 (by have := hgo.out; omega))
      clear hm8 hf8 ho8
      go_wp2_with fail
      refine hK.out _ _ (hM8.out) (fun hHeld => ?_)
      clear hK K
      try simp only [Act.put, List.getElem_toArray, List.getElem_cons_zero, List.getElem_cons_succ, List.setIfInBounds_toArray, List.set_cons_zero, List.set_cons_succ]
      have hbs : Hid (BsAt (w8.alloc (.cells #[.slice A7 p7.length c7, .slice A8 (txtB (recB m.r)).length c8] 23)) (some ⟨w8.heap.size, 0, none⟩) 2 [⟨A7, p7.length, c7⟩, ⟨A8, (txtB (recB m.r)).length, c8⟩] [p7, txtB (recB m.r)]) :=
        Lib.hid (bsAt_all w8 23 [⟨A7, p7.length, c7⟩, ⟨A8, (txtB (recB m.r)).length, c8⟩] [p7, txtB (recB m.r)] ⟨z7.out, z8.out, trivial⟩)
      refine wpAnyH_ready (rs := [11]) (by kernel_rfl) (by simp) ?_
      refine AllReadyH.cons rfl (fun K hK => ?_) AllReadyH.nil
      go_simp
      refine hK.out _ _ (hM8.out.alloc _) (fun hHeld => ?_)
      clear hK K
      try simp only [Act.put, List.getElem_toArray, List.getElem_cons_zero, List.getElem_cons_succ, List.setIfInBounds_toArray, List.set_cons_zero, List.set_cons_succ]
      have hfl : [p7, txtB (recB m.r)].flatten = msgB m := by rw [hmsg.out, hp7.out]; simp
      have kc := concatB_ok _ _ 2 2 _ _ hbs.out (by omega)
      rw [hfl] at kc
      refine wpAnyH_ready (rs := [12]) (by kernel_rfl) (by simp) ?_
      refine AllReadyH.cons rfl (fun K hK => ?_) AllReadyH.nil
      go_simp
      (with_reducible refine kc.mono ?_); rintro e2 w9 ⟨A9, c9, rfl, ho9, hf9, hm9⟩; dsimp only
      have hM9 := Lib.hid (hmm3.out.trans ((hM8.out.alloc _).trans hm9))
      have hM9' := Lib.hid ((hM8.out.alloc _).trans hm9)
      have hf := Lib.hid (hf9.later (hmm3.out.trans (hM8.out.alloc _)).size)
      replace ho9 := Lib.hid ho9
      clear hm9 hf9 hbs kc hfl z7 z8 htl
      generalize hlo : msgB m = lo at *
      replace hlo := Lib.hid hlo
      go_wp2_with fail
      refine hK.out _ _ (hM9'.out) (fun hHeld => ?_)
      clear hK K
      try simp only [Act.put, List.getElem_toArray, List.getElem_cons_zero, List.getElem_cons_succ, List.setIfInBounds_toArray, List.set_cons_zero, List.set_cons_succ]
      refine wpAnyH_take (i := 13) (v := ?_) rfl (by kernel_rfl) (by kernel_rfl) (by kernel_rfl) (fun _ _ _ h => h) (Or.inl ⟨by rfl, ?_⟩) (by assumption) ?_
      rotate_left
      · intro W hSw; (try dsimp only at hSw); go_simp; (try with_reducible rfl)
      try simp only [Act.put, List.getElem_toArray, List.getElem_cons_zero, List.getElem_cons_succ, List.setIfInBounds_toArray, List.set_cons_zero, List.set_cons_succ]
      refine wpAnyH_take (i := 14) (v := ?_) rfl (by kernel_rfl) (by kernel_rfl) (by kernel_rfl) (fun _ _ _ h => h) (Or.inl ⟨by rfl, ?_⟩) (by assumption) ?_
      rotate_left
      · intro W hSw; (try dsimp only at hSw); go_simp; (try with_reducible rfl)
      try simp only [Act.put, List.getElem_toArray, List.getElem_cons_zero, List.getElem_cons_succ, List.setIfInBounds_toArray, List.set_cons_zero, List.set_cons_succ]
      refine wpAnyH_done (by kernel_rfl) ?_ _
      clear hHeld hM0 hM7 hM8 kC3 kC
      go_wp2_with fail
      go_ret2
      exact .inl ⟨hr.out, A9, c9, rfl, ho9.out, hf.out, hM9.out⟩
    | false =>
      have k5 : rightR (bareR m.r) = true := by
        rcases k4.out with h | ⟨_, h⟩
        · rw [hrr] at h; cases h
        · exact h
      have k6 : plainB m = true := by
        rcases k4.out with h | ⟨h, _⟩
        · rw [hrr] at h; cases h
        · exact h
      unfold plainB at k6
      rw [decide_eq_true_eq] at k6
      have k7 := k6.2.2.1
      have k7' := k6.2.2.2
      clear k6
      obtain ⟨rfl, hm3⟩ : e = .returned (.tuple #[.slice none 0 0, .int .i64 1]) ∧ Mod none_ w2 w3 := by
        rcases hpost with ⟨h, _⟩ | ⟨_, h⟩
        · rw [hrr] at h; cases h
        · exact h
      dsimp only
      have hrl := recB_len (rightR_okRc k5 hn)
      have hmsg : Hid (msgB m = (nb m.frm ++ (nb m.to ++ (nb m.kind ++ (nb 0 ++ nb m.r.bal)))) ++ txtB (recB (bareR m.r))) := Lib.hid (by unfold msgB; rw [hrr]; simp)
      have hB3 := Lib.hid (hB2.out.mod hm3 (fun h => h))
      have hmm3 := Lib.hid (hmm2.out.trans hm3)
      clear hpost hm3 hB2 hmm2 hrr
      go_wp2_with (refine wpList_load_row rfl 40 (.tmp 1) rfl w.heap.size rfl _ _ _ _ hB3.out Try.underlying40 rfl msg_size ?_)
      with_reducible refine (kBa.out _).mono ?_
      rintro e w4 ⟨rfl, hm4⟩
      dsimp only
      have hB4 := Lib.hid (hB3.out.mod hm4 (fun h => h))
      have hmm4 := Lib.hid (hmm3.out.trans hm4)
      clear hm4 hB3 hmm3
      go_wp2_with fail
      with_reducible refine (kL2.out _ hmm4.out).mono ?_
      clear w3
      rintro e w3 hpost
      obtain ⟨A3, c3, rfl, ho3, hf3, hm3⟩ : ∃ A c, e = .returned (.tuple #[.slice A (recB (bareR m.r)).length c, .int .i64 0]) ∧ OwB w3 5 A (recB (bareR m.r)).length c (recB (bareR m.r)) ∧ Fresh w4 A ∧ Mod none_ w4 w3 := by
        rcases hpost with ⟨_, h⟩ | ⟨h, _⟩
        · exact h
        · rw [k5] at h; cases h
      dsimp only
      have zx := Lib.hid (ByAt.of_ow ho3 (by omega))
      have hB3 := Lib.hid (hB4.out.mod hm3 (fun h => h))
      have hmm3 := Lib.hid (hmm4.out.trans hm3)
      generalize hgo : (recB (bareR m.r)).length = n3 at *
      clear hpost ho3 hf3 hm3 hB4 hmm4 k5
      replace hgo := Lib.hid hgo
      replace hn := Lib.hid hn
      go_wp2_with fail
      have hM0 := Lib.hid ((Mod.refl none_ w3).drew)
      have kC3 := Lib.hid (fun W (h : Mod none_ w3 W) => ByAt.conv (zx.out.mod0 h))
      dsimp only at kC3
      have kC := Lib.hid (fun W (h : Mod none_ w3 W) => mgS_of (hB3.out.mod h (fun h => h)))
      refine wp_region_held_drew (S := fun W => Mod none_ w3 W) (by kernel_rfl) hM0.out (fun hHeld => ?_)
      refine wpAnyH_take (i := 0) (v := ?_) rfl (by kernel_rfl) (by kernel_rfl) (by kernel_rfl) (fun _ _ _ h => h) (Or.inl ⟨by rfl, ?_⟩) (by assumption) ?_
      rotate_left
      · intro W hSw; (try dsimp only at hSw); go_simp; (try with_reducible rfl)
      try simp only [Act.put, List.getElem_toArray, List.getElem_cons_zero, List.getElem_cons_succ, List.setIfInBounds_toArray, List.set_cons_zero, List.set_cons_succ]
      refine wpAnyH_take (i := 2) (v := ?_) rfl (by kernel_rfl) (by kernel_rfl) (by kernel_rfl) (fun _ _ _ h => h) (Or.inl ⟨by rfl, ?_⟩) (by assumption) ?_
      rotate_left
      · intro W hSw; (try dsimp only at hSw); go_simp; (try with_reducible rfl)
      try simp only [Act.put, List.getElem_toArray, List.getElem_cons_zero, List.getElem_cons_succ, List.setIfInBounds_toArray, List.set_cons_zero, List.set_cons_succ]
      refine wpAnyH_take (i := 4) (v := ?_) rfl (by kernel_rfl) (by kernel_rfl) (by kernel_rfl) (fun _ _ _ h => h) (Or.inl ⟨by rfl, ?_⟩) (by assumption) ?_
      rotate_left
      · intro W hSw; (try dsimp only at hSw); go_simp; (try with_reducible rfl)
      try simp only [Act.put, List.getElem_toArray, List.getElem_cons_zero, List.getElem_cons_succ, List.setIfInBounds_toArray, List.set_cons_zero, List.set_cons_succ]
      refine wpAnyH_take (i := 6) (v := ?_) rfl (by kernel_rfl) (by kernel_rfl) (by kernel_rfl) (fun _ _ _ h => h) (Or.inl ⟨by rfl, ?_⟩) (by assumption) ?_
      rotate_left
      · intro W hSw; (try dsimp only at hSw); go_simp; (try with_reducible rfl)
      try simp only [Act.put, List.getElem_toArray, List.getElem_cons_zero, List.getElem_cons_succ, List.setIfInBounds_toArray, List.set_cons_zero, List.set_cons_succ]
      refine wpAnyH_take (i := 10) (v := ?_) rfl (by kernel_rfl) (by kernel_rfl) (by kernel_rfl) (fun _ _ _ h => h) (Or.inl ⟨by rfl, ?_⟩) (by assumption) ?_
      rotate_left
      · intro W hSw; (try dsimp only at hSw); go_simp; (try with_reducible rfl)
      try simp only [Act.put, List.getElem_toArray, List.getElem_cons_zero, List.getElem_cons_succ, List.setIfInBounds_toArray, List.set_cons_zero, List.set_cons_succ]
      refine wpAnyH_take (i := 15) (v := ?_) rfl (by kernel_rfl) (by kernel_rfl) (by kernel_rfl) (fun _ _ _ h => h) (Or.inl ⟨by rfl, ?_⟩) (by assumption) ?_
      rotate_left
      · intro W hSw; (try dsimp only at hSw); go_simp; (try with_reducible rfl)
      try simp only [Act.put, List.getElem_toArray, List.getElem_cons_zero, List.getElem_cons_succ, List.setIfInBounds_toArray, List.set_cons_zero, List.set_cons_succ]
      refine wpAnyH_take (i := 1) (v := ?_) rfl (by kernel_rfl) (by kernel_rfl) (by kernel_rfl) (fun _ _ _ h => h) (Or.inl ⟨by rfl, ?_⟩) (by assumption) ?_
      rotate_left
      · intro W hSw; obtain ⟨s0, s1, s2, s5⟩ := kC.out W hSw; go_simp; (try with_reducible rfl)
      try simp only [Act.put, List.getElem_toArray, List.getElem_cons_zero, List.getElem_cons_succ, List.setIfInBounds_toArray, List.set_cons_zero, List.set_cons_succ]
      refine wpAnyH_take (i := 3) (v := ?_) rfl (by kernel_rfl) (by kernel_rfl) (by kernel_rfl) (fun _ _ _ h => h) (Or.inl ⟨by rfl, ?_⟩) (by assumption) ?_
      rotate_left
      · intro W hSw; obtain ⟨s0, s1, s2, s5⟩ := kC.out W hSw; go_simp; (try with_reducible rfl)
      try simp only [Act.put, List.getElem_toArray, List.getElem_cons_zero, List.getElem_cons_succ, List.setIfInBounds_toArray, List.set_cons_zero, List.set_cons_succ]
      refine wpAnyH_take (i := 5) (v := ?_) rfl (by kernel_rfl) (by kernel_rfl) (by kernel_rfl) (fun _ _ _ h => h) (Or.inl ⟨by rfl, ?_⟩) (by assumption) ?_
      rotate_left
      · intro W hSw; obtain ⟨s0, s1, s2, s5⟩ := kC.out W hSw; go_simp; (try with_reducible rfl)
      try simp only [Act.put, List.getElem_toArray, List.getElem_cons_zero, List.getElem_cons_succ, List.setIfInBounds_toArray, List.set_cons_zero, List.set_cons_succ]
      refine wpAnyH_take (i := 7) (v := ?_) rfl (by kernel_rfl) (by kernel_rfl) (by kernel_rfl) (fun _ _ _ h => h) (Or.inl ⟨by rfl, ?_⟩) (by assumption) ?_
      rotate_left
      · intro W hSw; obtain ⟨s0, s1, s2, s5⟩ := kC.out W hSw; go_simp; (try with_reducible rfl)
      try simp only [Act.put, List.getElem_toArray, List.getElem_cons_zero, List.getElem_cons_succ, List.setIfInBounds_toArray, List.set_cons_zero, List.set_cons_succ]
      refine wpAnyH_take (i := 11) (v := ?_) rfl (by kernel_rfl) (by kernel_rfl) (by kernel_rfl) (fun _ _ _ h => h) (Or.inl ⟨by rfl, ?_⟩) (by assumption) ?_
      rotate_left
      · intro W hSw; have hcv := kC3.out W hSw; go_simp; (try with_reducible rfl)
      try simp only [Act.put, List.getElem_toArray, List.getElem_cons_zero, List.getElem_cons_succ, List.setIfInBounds_toArray, List.set_cons_zero, List.set_cons_succ]
      refine wpAnyH_ready (rs := [8]) (by kernel_rfl) (by simp) ?_
      refine AllReadyH.cons rfl (fun K hK => ?_) AllReadyH.nil
      go_simp
      refine hK.out _ _ (((Mod.refl none_ w3).alloc (.cells #[.int .i64 m.frm, .int .i64 m.to, .int .i64 m.kind, .int .i64 0, .int .i64 m.r.bal] 3)).drew) (fun hHeld => ?_)
      clear hK K
      try simp only [Act.put, List.getElem_toArray, List.getElem_cons_zero, List.getElem_cons_succ, List.setIfInBounds_toArray, List.set_cons_zero, List.set_cons_succ]
      have kn := pnums_ok (w3.alloc (.cells #[.int .i64 m.frm, .int .i64 m.to, .int .i64 m.kind, .int .i64 0, .int .i64 m.r.bal] 3)).drew (some ⟨w3.heap.size, 0, none⟩) 5 5 [m.frm, m.to, m.kind, 0, m.r.bal] (rdi_row w3 3 _ rfl [m.frm, m.to, m.kind, 0, m.r.bal]) (by omega) (fun x hx => by simp at hx; rcases hx with rfl | rfl | rfl | rfl | rfl <;> exact in64_mk (by omega) (by omega))
      have hfl7 : [m.frm, m.to, m.kind, 0, m.r.bal].flatMap nb = nb m.frm ++ (nb m.to ++ (nb m.kind ++ (nb 0 ++ nb m.r.bal))) := by simp
      rw [hfl7] at kn
      refine wpAnyH_ready (rs := [9]) (by kernel_rfl) (by simp) ?_
      refine AllReadyH.cons rfl (fun K hK => ?_) AllReadyH.nil
      go_simp
      (with_reducible refine kn.mono ?_); rintro e2 w7 ⟨A7, c7, rfl, ho7, hf7, hm7⟩; dsimp only
      have hM7 := Lib.hid ((((Mod.refl none_ w3).alloc (.cells #[.int .i64 m.frm, .int .i64 m.to, .int .i64 m.kind, .int .i64 0, .int .i64 m.r.bal] 3)).drew).trans hm7)
      have hl7 : (nb m.frm ++ (nb m.to ++ (nb m.kind ++ (nb 0 ++ nb m.r.bal)))).length ≤ 100 := by
        have := nb_len m.frm
        have := nb_len m.to
        have := nb_len m.kind
        have := nb_len 0
        have := nb_len 1
        have := nb_len m.r.bal
        simp only [List.length_append]; omega
      obtain ⟨p7, hp7⟩ : ∃ p7, p7 = nb m.frm ++ (nb m.to ++ (nb m.kind ++ (nb 0 ++ nb m.r.bal))) := ⟨_, rfl⟩
      rw [← hp7] at ho7 hl7 ⊢
      have z7 := Lib.hid (ByAt.of_ow ho7 (by omega))
      clear kn hm7 hf7 ho7 hfl7
      replace hp7 := Lib.hid hp7
      go_wp2_with fail
      refine hK.out _ _ (hM7.out) (fun hHeld => ?_)
      clear hK K
      try simp only [Act.put, List.getElem_toArray, List.getElem_cons_zero, List.getElem_cons_succ, List.setIfInBounds_toArray, List.set_cons_zero, List.set_cons_succ]
      refine wpAnyH_ready (rs := [12]) (by kernel_rfl) (by simp) ?_
      refine AllReadyH.cons rfl (fun K hK => ?_) AllReadyH.nil
      go_simp
      (with_reducible refine (text_ok _ (recB (bareR m.r)) (by have := hgo.out; omega)).mono ?_); rintro e2 w8 ⟨A8, c8, rfl, ho8, hf8, hm8⟩; dsimp only
      have hM8 := Lib.hid (hM7.out.trans hm8)
      replace z7 := Lib.hid (z7.out.mod0 hm8)
      have htl := txtB_len (recB (bareR m.r))
      have z8 := Lib.hid (ByAt.of_ow ho8 (by have := hgo.out; omega))
      clear hm8 hf8 ho8
      go_wp2_with fail
      refine hK.out _ _ (hM8.out) (fun hHeld => ?_)
      clear hK K
      try simp only [Act.put, List.getElem_toArray, List.getElem_cons_zero, List.getElem_cons_succ, List.setIfInBounds_toArray, List.set_cons_zero, List.set_cons_succ]
      have hbs : Hid (BsAt (w8.alloc (.cells #[.slice A7 p7.length c7, .slice A8 (txtB (recB (bareR m.r))).length c8] 23)) (some ⟨w8.heap.size, 0, none⟩) 2 [⟨A7, p7.length, c7⟩, ⟨A8, (txtB (recB (bareR m.r))).length, c8⟩] [p7, txtB (recB (bareR m.r))]) :=
        Lib.hid (bsAt_all w8 23 [⟨A7, p7.length, c7⟩, ⟨A8, (txtB (recB (bareR m.r))).length, c8⟩] [p7, txtB (recB (bareR m.r))] ⟨z7.out, z8.out, trivial⟩)
      refine wpAnyH_ready (rs := [13]) (by kernel_rfl) (by simp) ?_
      refine AllReadyH.cons rfl (fun K hK => ?_) AllReadyH.nil
      go_simp
      refine hK.out _ _ (hM8.out.alloc _) (fun hHeld => ?_)
      clear hK K
      try simp only [Act.put, List.getElem_toArray, List.getElem_cons_zero, List.getElem_cons_succ, List.setIfInBounds_toArray, List.set_cons_zero, List.set_cons_succ]
      have hfl : [p7, txtB (recB (bareR m.r))].flatten = msgB m := by rw [hmsg.out, hp7.out]; simp
      have kc := concatB_ok _ _ 2 2 _ _ hbs.out (by omega)
      rw [hfl] at kc
      refine wpAnyH_ready (rs := [14]) (by kernel_rfl) (by simp) ?_
      refine AllReadyH.cons rfl (fun K hK => ?_) AllReadyH.nil
      go_simp
      (with_reducible refine kc.mono ?_); rintro e2 w9 ⟨A9, c9, rfl, ho9, hf9, hm9⟩; dsimp only
      have hM9 := Lib.hid (hmm3.out.trans ((hM8.out.alloc _).trans hm9))
      have hM9' := Lib.hid ((hM8.out.alloc _).trans hm9)
      have hf := Lib.hid (hf9.later (hmm3.out.trans (hM8.out.alloc _)).size)
      replace ho9 := Lib.hid ho9
      clear hm9 hf9 hbs kc hfl z7 z8 htl
      generalize hlo : msgB m = lo at *
      replace hlo := Lib.hid hlo
      go_wp2_with fail
      refine hK.out _ _ (hM9'.out) (fun hHeld => ?_)
      clear hK K
      try simp only [Act.put, List.getElem_toArray, List.getElem_cons_zero, List.getElem_cons_succ, List.setIfInBounds_toArray, List.set_cons_zero, List.set_cons_succ]
      refine wpAnyH_take (i := 16) (v := ?_) rfl (by kernel_rfl) (by kernel_rfl) (by kernel_rfl) (fun _ _ _ h => h) (Or.inl ⟨by rfl, ?_⟩) (by assumption) ?_
      rotate_left
      · intro W hSw; (try dsimp only at hSw); go_simp; (try with_reducible rfl)
      try simp only [Act.put, List.getElem_toArray, List.getElem_cons_zero, List.getElem_cons_succ, List.setIfInBounds_toArray, List.set_cons_zero, List.set_cons_succ]
      refine wpAnyH_take (i := 17) (v := ?_) rfl (by kernel_rfl) (by kernel_rfl) (by kernel_rfl) (fun _ _ _ h => h) (Or.inl ⟨by rfl, ?_⟩) (by assumption) ?_
      rotate_left
      · intro W hSw; (try dsimp only at hSw); go_simp; (try with_reducible rfl)
      try simp only [Act.put, List.getElem_toArray, List.getElem_cons_zero, List.getElem_cons_succ, List.setIfInBounds_toArray, List.set_cons_zero, List.set_cons_succ]
      refine wpAnyH_done (by kernel_rfl) ?_ _
      clear hHeld hM0 hM7 hM8 kC3 kC
      go_wp2_with fail
      go_ret2
      exact .inl ⟨hr.out, A9, c9, rfl, ho9.out, hf.out, hM9.out⟩
end Go.Proofs.Ytdekehhmjehicaa
/-
  The bag: New, Len, All, put, Put. No condition.
-/
namespace Go.Proofs.Ytdekehhmjehicaa
set_option linter.unusedVariables false
set_option linter.unusedSimpArgs false
open Go.RowKit
/-- a bag in memory: its slice, what it has -/
structure BagSt (W : World) (p : Nat) (A : Option Addr) (n c : Nat) (xs : List Ms) : Prop where
  blk : Blk W p 81 #[.slice A n c]
  ow : OwM W A n c xs
  np : ¬ fp A p
theorem BagSt.mod {F : Nat → Prop} {W W' : World} {p : Nat} {A : Option Addr} {n c : Nat} {xs : List Ms} (h : BagSt W p A n c xs) (hm : Mod F W W') (hp : ¬ F p) (hA : ∀ k, fp A k → ¬ F k) : BagSt W' p A n c xs := ⟨h.blk.mod hm hp, h.ow.mod hm hA, h.np⟩
theorem BagSt.mod0 {W W' : World} {p : Nat} {A : Option Addr} {n c : Nat} {xs : List Ms} (h : BagSt W p A n c xs) (hm : Mod none_ W W') : BagSt W' p A n c xs := h.mod hm (fun h => h) (fun _ _ h => h)
theorem BagSt.len {W : World} {p : Nat} {A : Option Addr} {n c : Nat} {xs : List Ms} (h : BagSt W p A n c xs) : xs.length = n := h.ow.len
/-- what a bag's own memory is -/
def bagF (p : Nat) (A : Option Addr) : Nat → Prop := fun k => k = p ∨ fp A k
theorem bagNew_ok (w : World) : Calls Try.prog 13 #[] w fun e w' => e = .returned (.pointer (some ⟨w.heap.size, 0, none⟩)) ∧ BagSt w' w.heap.size none 0 0 [] ∧ Mod none_ w w' := by
  have hb := Blk.new w 81 #[.slice none 0 0]
  replace hb := Lib.hid hb
  go_enter Try.func13, Try.ntmps13
  go_wp2_with fail
  go_ret
  exact ⟨rfl, ⟨hb.out, Ow.nil _ _ _, (fun h => by obtain ⟨a, ha, _⟩ := h; cases ha)⟩, (Mod.refl none_ w).alloc _⟩
theorem bagLen_ok (w : World) (p : Nat) (A : Option Addr) (n c : Nat) (xs : List Ms) (h : BagSt w p A n c xs) : Calls Try.prog 18 #[.pointer (some ⟨p, 0, none⟩)] w fun e w' => e = .returned (.int .i64 (n : Int)) ∧ w = w' := by
  have c0 : w.cell? ⟨p, 0, none⟩ = some (.slice A n c) := h.blk.cell_ rfl
  clear h
  go_enter Try.func18, Try.ntmps18
  go_wp2_with fail
  go_ret
  exact ⟨rfl, rfl⟩
theorem bagLen_nil (w : World) : Calls Try.prog 18 #[.pointer none] w fun e w' => e = .returned (.int .i64 0) ∧ w = w' := by
  go_enter Try.func18, Try.ntmps18
  go_wp2_with fail
  go_ret
  exact ⟨rfl, rfl⟩
theorem bagAll_ok (w : World) (p : Nat) (A : Option Addr) (n c : Nat) (xs : List Ms) (h : BagSt w p A n c xs) (hn : n ≤ 100000000) : Calls Try.prog 19 #[.pointer (some ⟨p, 0, none⟩)] w fun e w' =>
    ∃ A' c', e = .returned (.slice A' n c') ∧ OwM w' A' n c' xs ∧ Fresh w A' ∧ Mod none_ w w' := by
  have c0 : w.cell? ⟨p, 0, none⟩ = some (.slice A n c) := h.blk.cell_ rfl
  have kc := Lib.hid (cloneM_ok w xs A n c h.ow.rd hn)
  clear h
  go_enter Try.func19, Try.ntmps19
  go_wp2_with fail
  refine kc.out.mono ?_
  rintro e w1 ⟨A', c', rfl, h1, h2, h3⟩
  dsimp only
  replace h1 := Lib.hid h1
  replace h2 := Lib.hid h2
  replace h3 := Lib.hid h3
  go_wp2_with fail
  go_ret
  exact ⟨A', c', rfl, h1.out, h2.out, h3.out⟩
theorem bagAll_nil (w : World) : Calls Try.prog 19 #[.pointer none] w fun e w' => e = .returned (.slice none 0 0) ∧ w = w' := by
  go_enter Try.func19, Try.ntmps19
  go_wp2_with fail
  go_ret
  exact ⟨rfl, rfl⟩
theorem mss_take (xs : List Ms) (k : Nat) (hk : k ≤ xs.length) : (mss xs).take (k * 20) = mss (xs.take k) := by
  have h0 : mss xs = mss (xs.take k) ++ mss (xs.drop k) := by rw [← mss_append, List.take_append_drop]
  rw [h0]
  have hl : (mss (xs.take k)).length = k * 20 := by rw [mss_length, List.length_take, Nat.min_eq_left hk]
  rw [List.take_append, hl, List.take_of_length_le (by omega)]
  simp
theorem mss_drop (xs : List Ms) (k : Nat) (hk : k ≤ xs.length) : (mss xs).drop (k * 20) = mss (xs.drop k) := by
  have h0 : mss xs = mss (xs.take k) ++ mss (xs.drop k) := by rw [← mss_append, List.take_append_drop]
  rw [h0]
  have hl : (mss (xs.take k)).length = k * 20 := by rw [mss_length, List.length_take, Nat.min_eq_left hk]
  rw [List.drop_append, hl, List.drop_of_length_le (by omega)]
  simp
theorem RdM.len {w : World} {A : Option Addr} {n : Nat} {xs : List Ms} (h : RdM w A n xs) : xs.length = n := by have := h.1; rw [mss_length] at this; omega
theorem rdM_take {w : World} {A : Option Addr} {n : Nat} {xs : List Ms} (h : RdM w A n xs) {k : Nat} (hk : k ≤ n) : RdM w A k (xs.take k) := by
  have := Rd.take_ h hk
  rw [mss_take xs k (by rw [h.len]; exact hk)] at this
  exact this
theorem rdM_drop {w : World} {A : Option Addr} {n c : Nat} {xs : List Ms} (h : RdM w A n xs) {k : Nat} (hk : k ≤ n) (hc : n ≤ c) : RdM w (if c = k then A else A.map (·.add (k * 20))) (n - k) (xs.drop k) := by
  have := Rd.drop_ h hk hc
  rw [mss_drop xs k (by rw [h.len]; exact hk)] at this
  exact this
theorem step_appM {w : World} {ops : Array Oper} {o : Oper} {a : Act} {K : Act → World → Prop} {Q : Exit → Act → World → Prop} {E : Prop} (hgd : o.guard = none) (s x : Operand)
    (ho : o.op = .call { callee := .builtin .append, args := #[s, x], argTypes := #[22, 22] })
    {A : Option Addr} {n c : Nat} {xs : List Ms} (hs : a.eval s = .slice A n c) (hown : OwM w A n c xs)
    {S : Option Addr} {m d : Nat} {news : List Ms} (hx : a.eval x = .slice S m d) (hr : RdM w S m news) (hb : (n + m) * 216 ≤ 140737488355328)
    (h : ∀ A' c' w', OwM w' A' (n + m) c' (xs ++ news) → Mod (fp A) w w' → (A' = A ∨ A' = some ⟨w.heap.size, 0, none⟩) → K (a.put o.dst (.slice A' (n + m) c')) w') : if Region.wanted o (yielded ops a.tmps) = true then Oper.wp Try.prog o a w K Q else E := by
  obtain ⟨i0, hi, hz0, hz1, hz2⟩ := info_parts msinfo
  refine step_append_ow hgd s x 22 ho 40 i0 _ 20 216 Try.underlying22 hi hz0 hz1 hz2 rfl (by omega) A n c (mss xs) hs hown S m d (mss news) hx hr (mss_one _) (by omega) (by omega) ?_
  intro A' c' w' h1
  rw [← mss_append] at h1
  exact h A' c' w' h1
/-- how many are put -/
def putN (m n : Nat) : Nat := min m (400 - n)
def PutPost (w : World) (p : Nat) (A : Option Addr) (n : Nat) (xs ys : List Ms) (v : Int) (e : Ending) (w' : World) : Prop :=
  ∃ A' c', e = .returned (.int .i64 v) ∧ BagSt w' p A' (n + putN ys.length n) c' (xs ++ ys.take (putN ys.length n)) ∧ Mod (bagF p A) w w' ∧ ∀ k, fp A' k → fp A k ∨ w.heap.size ≤ k
set_option maxRecDepth 100000 in
set_option maxHeartbeats 4000000 in
theorem bagput_ok (w : World) (p : Nat) (A : Option Addr) (n c : Nat) (xs : List Ms) (h : BagSt w p A n c xs) (hn : n ≤ 400) (B : Option Addr) (m d : Nat) (ys : List Ms) (hy : RdM w B m ys) (hmd : m ≤ d) (hm : m ≤ 100000000) :
    Calls Try.prog 38 #[.pointer (some ⟨p, 0, none⟩), .slice B m d] w (PutPost w p A n xs ys (putN ys.length n : Nat)) := by
  have hl : ys.length = m := by have := hy.1; rw [mss_length] at this; omega
  rw [hl]
  have c0 : w.cell? ⟨p, 0, none⟩ = some (.slice A n c) := h.blk.cell_ rfl
  have f0 : w.frozen? ⟨p, 0, none⟩ = false := h.blk.frozen 0
  obtain ⟨q, hq⟩ : ∃ q, q = putN m n := ⟨_, rfl⟩
  have hq1 : q ≤ m := by rw [hq]; unfold putN; omega
  have hq2 : n + q ≤ 400 := by rw [hq]; unfold putN; omega
  have hqi : min (m : Int) (400 - (n : Int)) = (q : Int) := by rw [hq]; unfold putN; omega
  have hbh := Lib.hid h
  have hyt := Lib.hid (rdM_take hy hq1)
  have hcn := h.ow.2.1
  have hcm : c ≤ maxLen := h.ow.2.2.1
  have hcm2 : c ≤ 9223372036854775807 := by simp only [maxLen] at hcm; omega
  have hpl := Lib.hid h.blk.lt
  rw [← hq]
  replace hq := Lib.hid hq
  replace hy := Lib.hid hy
  replace hl := Lib.hid hl
  replace hcm := Lib.hid hcm
  clear h
  go_enter Try.func38, Try.ntmps38
  go_wp2_with fail
  refine wp_region_held_drew (S := fun _ => True) (by kernel_rfl) trivial (fun hHeld => ?_)
  refine wpAnyH_take (i := 0) (v := ?_) rfl (by kernel_rfl) (by kernel_rfl) (by kernel_rfl) (fun _ _ _ h => h) (Or.inl ⟨by rfl, ?_⟩) (by assumption) ?_
  rotate_left
  · intro W hSw; (try dsimp only at hSw); go_simp; (try with_reducible rfl)
  try simp only [Act.put, List.getElem_toArray, List.getElem_cons_zero, List.getElem_cons_succ, List.setIfInBounds_toArray, List.set_cons_zero, List.set_cons_succ]
  refine wpAnyH_take (i := 1) (v := ?_) rfl (by kernel_rfl) (by kernel_rfl) (by kernel_rfl) (fun _ _ _ h => h) (Or.inl ⟨by rfl, ?_⟩) (by assumption) ?_
  rotate_left
  · intro W hSw; (try dsimp only at hSw); go_simp; (try with_reducible rfl)
  try simp only [Act.put, List.getElem_toArray, List.getElem_cons_zero, List.getElem_cons_succ, List.setIfInBounds_toArray, List.set_cons_zero, List.set_cons_succ]
  refine wpAnyH_take (i := 2) (v := ?_) rfl (by kernel_rfl) (by kernel_rfl) (by kernel_rfl) (fun _ _ _ h => h) (Or.inl ⟨by rfl, ?_⟩) (by assumption) ?_
  rotate_left
  · intro W hSw; (try dsimp only at hSw); go_simp; (try with_reducible rfl)
  try simp only [Act.put, List.getElem_toArray, List.getElem_cons_zero, List.getElem_cons_succ, List.setIfInBounds_toArray, List.set_cons_zero, List.set_cons_succ]
  refine wpAnyH_take (i := 3) (v := ?_) rfl (by kernel_rfl) (by kernel_rfl) (by kernel_rfl) (fun _ _ _ h => h) (Or.inl ⟨by rfl, ?_⟩) (by assumption) ?_
  rotate_left
  · intro W hSw; (try dsimp only at hSw); go_simp; (try with_reducible rfl)
  try simp only [Act.put, List.getElem_toArray, List.getElem_cons_zero, List.getElem_cons_succ, List.setIfInBounds_toArray, List.set_cons_zero, List.set_cons_succ]
  refine wpAnyH_take (i := 5) (v := ?_) rfl (by kernel_rfl) (by kernel_rfl) (by kernel_rfl) (fun _ _ _ h => h) (Or.inl ⟨by rfl, ?_⟩) (by assumption) ?_
  rotate_left
  · intro W hSw; (try dsimp only at hSw); go_simp; (try with_reducible rfl)
  try simp only [Act.put, List.getElem_toArray, List.getElem_cons_zero, List.getElem_cons_succ, List.setIfInBounds_toArray, List.set_cons_zero, List.set_cons_succ]
  refine wpAnyH_take (i := 6) (v := ?_) rfl (by kernel_rfl) (by kernel_rfl) (by kernel_rfl) (fun _ _ _ h => h) (Or.inl ⟨by rfl, ?_⟩) (by assumption) ?_
  rotate_left
  · intro W hSw; (try dsimp only at hSw); go_simp; (try with_reducible rfl)
  try simp only [Act.put, List.getElem_toArray, List.getElem_cons_zero, List.getElem_cons_succ, List.setIfInBounds_toArray, List.set_cons_zero, List.set_cons_succ]
  refine wpAnyH_take (i := 7) (v := ?_) rfl (by kernel_rfl) (by kernel_rfl) (by kernel_rfl) (fun _ _ _ h => h) (Or.inl ⟨by rfl, ?_⟩) (by assumption) ?_
  rotate_left
  · intro W hSw; have hqd := Nat.le_trans hq1 hmd; go_simp; (try with_reducible rfl)
  try simp only [Act.put, List.getElem_toArray, List.getElem_cons_zero, List.getElem_cons_succ, List.setIfInBounds_toArray, List.set_cons_zero, List.set_cons_succ]
  refine wpAnyH_ready (rs := [4]) (by kernel_rfl) (by simp) ?_
  refine AllReadyH.cons rfl (fun K hK => ?_) AllReadyH.nil
  go_simp
  refine hK.out _ _ (trivial) (fun hHeld => ?_)
  clear hK K
  try simp only [Act.put, List.getElem_toArray, List.getElem_cons_zero, List.getElem_cons_succ, List.setIfInBounds_toArray, List.set_cons_zero, List.set_cons_succ]
  refine wpAnyH_ready (rs := [8]) (by kernel_rfl) (by simp) ?_
  refine AllReadyH.cons rfl (fun K hK => ?_) AllReadyH.nil
  refine step_appM rfl (.tmp 19) (.tmp 22) rfl rfl (hbh.out.ow.mod0 (Mod.refl none_ w).drew) rfl (Rd.mod0 hyt.out (Mod.refl none_ w).drew) (by omega) ?_
  intro A' c' w' ho hmA hA
  have hb' : Blk w' p 81 #[.slice A n c] := (hbh.out.blk.drew).mod hmA hbh.out.np
  have c1 : w'.cell? ⟨p, 0, none⟩ = some (.slice A n c) := hb'.cell_ rfl
  have f1 : w'.frozen? ⟨p, 0, none⟩ = false := hb'.frozen 0
  have hnp' : Hid (¬ fp A' p) := Lib.hid (by
    rcases hA with rfl | rfl
    · exact hbh.out.np
    · rintro ⟨a, ha, hk⟩; cases ha; have := hpl.out; simp only [World.size_drew] at hk; omega)
  have hfr : Hid (∀ k, fp A' k → fp A k ∨ w.heap.size ≤ k) := Lib.hid (by
    rcases hA with rfl | rfl
    · exact fun k hk => .inl hk
    · rintro k ⟨a, ha, rfl⟩; cases ha; exact .inr (Nat.le_refl _))
  have hmA2 := Lib.hid (((Mod.refl (bagF p A) w).drew).trans (hmA.mono (G := bagF p A) (fun k hk => .inr hk)))
  replace ho := Lib.hid ho
  replace hb' := Lib.hid hb'
  clear hmA hA
  refine hK.out _ _ (trivial) (fun hHeld => ?_)
  clear hK K
  try simp only [Act.put, List.getElem_toArray, List.getElem_cons_zero, List.getElem_cons_succ, List.setIfInBounds_toArray, List.set_cons_zero, List.set_cons_succ]
  refine wpAnyH_take (i := 9) (v := ?_) rfl (by kernel_rfl) (by kernel_rfl) (by kernel_rfl) (fun _ _ _ h => h) (Or.inl ⟨by rfl, ?_⟩) (by assumption) ?_
  rotate_left
  · intro W hSw; (try dsimp only at hSw); go_simp; (try with_reducible rfl)
  try simp only [Act.put, List.getElem_toArray, List.getElem_cons_zero, List.getElem_cons_succ, List.setIfInBounds_toArray, List.set_cons_zero, List.set_cons_succ]
  refine wpAnyH_take (i := 10) (v := ?_) rfl (by kernel_rfl) (by kernel_rfl) (by kernel_rfl) (fun _ _ _ h => h) (Or.inl ⟨by rfl, ?_⟩) (by assumption) ?_
  rotate_left
  · intro W hSw; (try dsimp only at hSw); go_simp; (try with_reducible rfl)
  try simp only [Act.put, List.getElem_toArray, List.getElem_cons_zero, List.getElem_cons_succ, List.setIfInBounds_toArray, List.set_cons_zero, List.set_cons_succ]
  refine wpAnyH_ready (rs := [11]) (by kernel_rfl) (by simp) ?_
  refine AllReadyH.cons rfl (fun K hK => ?_) AllReadyH.nil
  go_simp
  refine hK.out _ _ (trivial) (fun hHeld => ?_)
  clear hK K
  try simp only [Act.put, List.getElem_toArray, List.getElem_cons_zero, List.getElem_cons_succ, List.setIfInBounds_toArray, List.set_cons_zero, List.set_cons_succ]
  refine wpAnyH_done (by kernel_rfl) ?_ _
  clear hHeld c1 f1
  go_wp2_with fail
  go_ret
  unfold PutPost
  rw [show putN ys.length n = q by rw [hl.out, hq.out]]
  exact ⟨A', c', rfl, ⟨hb'.out.set_ 0 _, ho.out.mod ((Mod.refl (only p) w').set_only 0 _) (fun k hk hh => by have : k = p := hh; subst this; exact hnp'.out hk), hnp'.out⟩, hmA2.out.setCell (p := ⟨p, 0, none⟩) (.inl (.inl rfl)) _, hfr.out⟩
theorem bagF_none (p : Nat) : ∀ k, bagF p none k → k = p := by
  rintro k (h | ⟨a, ha, _⟩)
  · exact h
  · cases ha
set_option maxRecDepth 100000 in
set_option maxHeartbeats 4000000 in
theorem bagPut_ok (w : World) (p : Nat) (A : Option Addr) (n c : Nat) (xs : List Ms) (h : BagSt w p A n c xs) (hn : n ≤ 400) (B : Option Addr) (m d : Nat) (ys : List Ms) (hy : RdM w B m ys) (hE : MsM w ys) (hk : ∀ x ∈ ys, MsOk x) (hm : m ≤ 100000000) :
    Calls Try.prog 15 #[.pointer (some ⟨p, 0, none⟩), .slice B m d] w (PutPost w p A n xs (ys.filter RtM) ((m : Int) - (putN (ys.filter RtM).length n : Nat))) := by
  have kC := Lib.hid (cloneM_ok w ys B m d hy hm)
  have hfl : (ys.filter RtM).length ≤ m := by have := hy.len; have := List.length_filter_le RtM ys; omega
  have hbh := Lib.hid h
  have hpn : putN (ys.filter RtM).length n ≤ m := by unfold putN; omega
  clear h
  replace hE := Lib.hid hE
  replace hk := Lib.hid hk
  replace hy := Lib.hid hy
  go_enter Try.func15, Try.ntmps15
  go_wp2_with fail
  refine kC.out.mono ?_
  rintro e w1 ⟨A1, c1, rfl, ho1, hf1, hm1⟩
  dsimp only
  have hE1 := hE.out.mod0 hm1
  have hF1 : FarsM (fp A1) ys := fun x hx => farM_new (hE.out x hx) (fun k hk => by obtain ⟨a, ha, rfl⟩ := hk; exact hf1 a ha)
  have kD := Lib.hid (deleteM_ok w1 A1 m c1 ys ho1 hE1 hF1 hk.out hm)
  have hb1 := hbh.out.mod0 hm1
  have hap : ∀ k, fp A1 k → ¬ bagF p A k := by
    rintro k ⟨a, ha, rfl⟩ (hh | hh)
    · have := hf1 a ha; have := hbh.out.blk.lt; omega
    · have := hf1 a ha; have := hbh.out.ow.lt _ hh; omega
  clear hE1 hF1 ho1
  replace hf1 := Lib.hid hf1
  replace hm1 := Lib.hid hm1
  replace hb1 := Lib.hid hb1
  replace hap := Lib.hid hap
  go_wp2_with fail
  with_reducible refine kD.out.mono ?_
  rintro e w2 ⟨m2, rfl, ho2, hm2⟩
  dsimp only
  have hl2 := ho2.len
  subst hl2
  have hb2 := hb1.out.mod hm2 (fun hh => hap.out p hh (.inl rfl)) (fun k hk hh => hap.out k hh (.inr hk))
  have kP := Lib.hid (bagput_ok w2 p A n c xs hb2 hn A1 _ c1 (ys.filter RtM) ho2.rd ho2.2.1 (by omega))
  have hM2 := Lib.hid (hm1.out.then hm2 (fun i hi hk => by obtain ⟨a, ha, rfl⟩ := hk; have := hf1.out a ha; omega))
  clear hb2 ho2 hm2
  generalize (ys.filter RtM).length = m2 at *
  go_wp2_with fail
  with_reducible refine kP.out.mono ?_
  rintro e w3 ⟨A3, c3, rfl, hb3, hm3, hfr3⟩
  dsimp only
  replace hb3 := Lib.hid hb3
  replace hm3 := Lib.hid hm3
  replace hfr3 := Lib.hid hfr3
  go_wp2_with fail
  go_ret
  refine ⟨A3, c3, rfl, hb3.out, (hM2.out.any _).trans hm3.out, fun k hk => ?_⟩
  rcases hfr3.out k hk with h1 | h1
  · exact .inl h1
  · exact .inr (Nat.le_trans hM2.out.size h1)
set_option maxRecDepth 100000 in
theorem bagPut_nil (w : World) (B : Option Addr) (m d : Nat) : Calls Try.prog 15 #[.pointer none, .slice B m d] w fun e w' => e = .returned (.int .i64 (m : Int)) ∧ w = w' := by
  go_enter Try.func15, Try.ntmps15
  go_wp2_with fail
  go_ret
  exact ⟨rfl, rfl⟩
end Go.Proofs.Ytdekehhmjehicaa
/-
  The bag: Look; slices.Delete of one message. No condition.
-/
namespace Go.Proofs.Ytdekehhmjehicaa
set_option linter.unusedVariables false
set_option linter.unusedSimpArgs false
open Go.RowKit
def lookR (xs : List Ms) (k : Int) : Option Ms := if 0 ≤ k then xs[k.toNat]? else none
def zeroMs : Ms := ⟨⟨0, 0, 0, ⟨⟨0, 0⟩, 0, 0, 0, en0⟩⟩, ⟨none, 0, 0⟩, ⟨none, 0, 0⟩⟩
/-- what Look tells: the message, or a zero one -/
def LookV (xs : List Ms) (k : Int) (v : Value) : Prop :=
  (∃ x, lookR xs k = some x ∧ v = .tuple #[.agg #[.int .i64 x.m.frm, .int .i64 x.m.to, .int .i64 x.m.kind, .int .i64 x.m.r.i.r, .int .i64 x.m.r.i.n, .int .i64 x.m.r.bal, .int .i64 x.m.r.st, .int .i64 x.m.r.by_, .int .i64 x.m.r.e.o.c, .int .i64 x.m.r.e.o.s, .int .i64 x.m.r.e.o.k, .string (txt x.m.r.e.o.acct), .string (txt x.m.r.e.o.peer), .int .i64 x.m.r.e.o.sum, .slice x.L.a x.L.n x.L.c, .int .i64 x.m.r.e.o.per, .int .i64 x.m.r.e.o.hold, .string (txt x.m.r.e.o.note), .bool x.m.r.e.none, .slice x.D.a x.D.n x.D.c], .bool true]) ∨ (lookR xs k = none ∧ v = .tuple #[.agg #[.int .i64 0, .int .i64 0, .int .i64 0, .int .i64 0, .int .i64 0, .int .i64 0, .int .i64 0, .int .i64 0, .int .i64 0, .int .i64 0, .int .i64 0, .string ⟨#[]⟩, .string ⟨#[]⟩, .int .i64 0, .slice none 0 0, .int .i64 0, .int .i64 0, .string ⟨#[]⟩, .bool false, .slice none 0 0], .bool false])
set_option maxRecDepth 100000 in
set_option maxHeartbeats 4000000 in
theorem bagLook_ok (w : World) (p : Nat) (A : Option Addr) (n c : Nat) (xs : List Ms) (h : BagSt w p A n c xs) (k : Int) :
    Calls Try.prog 21 #[.pointer (some ⟨p, 0, none⟩), .int .i64 k] w fun e w' => ∃ v, e = .returned v ∧ LookV xs k v ∧ Mod none_ w w' := by
  have hl := h.len
  have hb0 := Lib.hid (Blk.new w 40 #[.int .i64 0, .int .i64 0, .int .i64 0, .int .i64 0, .int .i64 0, .int .i64 0, .int .i64 0, .int .i64 0, .int .i64 0, .int .i64 0, .int .i64 0, .string ⟨#[]⟩, .string ⟨#[]⟩, .int .i64 0, .slice none 0 0, .int .i64 0, .int .i64 0, .string ⟨#[]⟩, .bool false, .slice none 0 0])
  have hm0 := (Mod.refl none_ w).alloc (.cells #[.int .i64 0, .int .i64 0, .int .i64 0, .int .i64 0, .int .i64 0, .int .i64 0, .int .i64 0, .int .i64 0, .int .i64 0, .int .i64 0, .int .i64 0, .string ⟨#[]⟩, .string ⟨#[]⟩, .int .i64 0, .slice none 0 0, .int .i64 0, .int .i64 0, .string ⟨#[]⟩, .bool false, .slice none 0 0] 40)
  have h0 := h.mod0 hm0
  have kL := Lib.hid (bagLen_ok _ p A n c xs h0)
  have c0 : (w.alloc (.cells #[.int .i64 0, .int .i64 0, .int .i64 0, .int .i64 0, .int .i64 0, .int .i64 0, .int .i64 0, .int .i64 0, .int .i64 0, .int .i64 0, .int .i64 0, .string ⟨#[]⟩, .string ⟨#[]⟩, .int .i64 0, .slice none 0 0, .int .i64 0, .int .i64 0, .string ⟨#[]⟩, .bool false, .slice none 0 0] 40)).cell? ⟨p, 0, none⟩ = some (.slice A n c) := h0.blk.cell_ rfl
  have c1 : w.cell? ⟨p, 0, none⟩ = some (.slice A n c) := h.blk.cell_ rfl
  have hpl := h.blk.lt
  replace hm0 := Lib.hid hm0
  replace hpl := Lib.hid hpl
  by_cases hk : k < 0
  · have hr : Hid (lookR xs k = none) := Lib.hid (by unfold lookR; rw [if_neg (by omega)])
    replace h := Lib.hid h
    replace h0 := Lib.hid h0
    go_enter Try.func21, Try.ntmps21
    go_wp2_with (refine wpList_store_blk rfl 40 (.tmp 4) (.tmp 14) rfl w.heap.size 0 _ rfl rfl hb0.out (by simp) msg_size (by rfl) #[.int .i64 0, .int .i64 0, .int .i64 0, .int .i64 0, .int .i64 0, .int .i64 0, .int .i64 0, .int .i64 0, .int .i64 0, .int .i64 0, .int .i64 0, .string ⟨#[]⟩, .string ⟨#[]⟩, .int .i64 0, .slice none 0 0, .int .i64 0, .int .i64 0, .string ⟨#[]⟩, .bool false, .slice none 0 0] rfl ?_; intro w2 hb2 hm2; replace hb2 := Lib.hid hb2; replace hm2 := Lib.hid hm2)
    refine ret_row_tmp rfl w.heap.size rfl hb2.out Try.underlying40 rfl msg_size (.bool false) rfl rfl ?_
    exact ⟨_, rfl, .inr ⟨hr.out, rfl⟩, hm0.out.in_new (Nat.le_refl _) hm2.out⟩
  · obtain ⟨j, rfl⟩ : ∃ j : Nat, k = (j : Int) := ⟨k.toNat, by omega⟩
    by_cases hj : j < n
    · obtain ⟨b, o, x, rfl, hxm, hx, hrg⟩ := rdm_get (w := w) h.ow.rd hj
      have hr : Hid (lookR xs (j : Int) = some x) := Lib.hid (by unfold lookR; rw [if_pos (by omega)]; simpa using hx)
      have hrg1 : (w.alloc (.cells #[.int .i64 0, .int .i64 0, .int .i64 0, .int .i64 0, .int .i64 0, .int .i64 0, .int .i64 0, .int .i64 0, .int .i64 0, .int .i64 0, .int .i64 0, .string ⟨#[]⟩, .string ⟨#[]⟩, .int .i64 0, .slice none 0 0, .int .i64 0, .int .i64 0, .string ⟨#[]⟩, .bool false, .slice none 0 0] 40)).rangeAt b (o + j * 20) (msC x) := World.rangeAt_alloc hrg _
      unfold msC at hrg1
      clear hrg
      replace hxm := Lib.hid hxm
      replace hx := Lib.hid hx
      replace hrg1 := Lib.hid hrg1
      replace h := Lib.hid h
      replace h0 := Lib.hid h0
      replace hl := Lib.hid hl
      go_enter Try.func21, Try.ntmps21
      go_wp2_with fail
      refine kL.out.mono ?_
      rintro e w1 ⟨rfl, rfl⟩
      go_wp2_with (first
        | (refine wpList_load_mid rfl 40 (.tmp 20) rfl b (o + j * 20) rfl _ _ hrg1.out Try.underlying40 rfl msg_size ?_)
        | (refine wpList_store_blk rfl 40 (.tmp 4) (.tmp 21) rfl w.heap.size 0 _ rfl rfl hb0.out (by simp) msg_size (by rfl) #[.int .i64 x.m.frm, .int .i64 x.m.to, .int .i64 x.m.kind, .int .i64 x.m.r.i.r, .int .i64 x.m.r.i.n, .int .i64 x.m.r.bal, .int .i64 x.m.r.st, .int .i64 x.m.r.by_, .int .i64 x.m.r.e.o.c, .int .i64 x.m.r.e.o.s, .int .i64 x.m.r.e.o.k, .string (txt x.m.r.e.o.acct), .string (txt x.m.r.e.o.peer), .int .i64 x.m.r.e.o.sum, .slice x.L.a x.L.n x.L.c, .int .i64 x.m.r.e.o.per, .int .i64 x.m.r.e.o.hold, .string (txt x.m.r.e.o.note), .bool x.m.r.e.none, .slice x.D.a x.D.n x.D.c] rfl ?_; intro w2 hb2 hm2; replace hb2 := Lib.hid hb2; replace hm2 := Lib.hid hm2))
      refine ret_row_tmp rfl w.heap.size rfl hb2.out Try.underlying40 rfl msg_size (.bool true) rfl rfl ?_
      exact ⟨_, rfl, .inl ⟨x, hr.out, rfl⟩, hm0.out.in_new (Nat.le_refl _) hm2.out⟩
    · have hr : Hid (lookR xs (j : Int) = none) := Lib.hid (by unfold lookR; rw [if_pos (by omega)]; simp; omega)
      replace h := Lib.hid h
      replace h0 := Lib.hid h0
      replace hl := Lib.hid hl
      go_enter Try.func21, Try.ntmps21
      go_wp2_with fail
      refine kL.out.mono ?_
      rintro e w1 ⟨rfl, rfl⟩
      go_wp2_with (refine wpList_store_blk rfl 40 (.tmp 4) (.tmp 14) rfl w.heap.size 0 _ rfl rfl hb0.out (by simp) msg_size (by rfl) #[.int .i64 0, .int .i64 0, .int .i64 0, .int .i64 0, .int .i64 0, .int .i64 0, .int .i64 0, .int .i64 0, .int .i64 0, .int .i64 0, .int .i64 0, .string ⟨#[]⟩, .string ⟨#[]⟩, .int .i64 0, .slice none 0 0, .int .i64 0, .int .i64 0, .string ⟨#[]⟩, .bool false, .slice none 0 0] rfl ?_; intro w2 hb2 hm2; replace hb2 := Lib.hid hb2; replace hm2 := Lib.hid hm2)
      refine ret_row_tmp rfl w.heap.size rfl hb2.out Try.underlying40 rfl msg_size (.bool false) rfl rfl ?_
      exact ⟨_, rfl, .inr ⟨hr.out, rfl⟩, hm0.out.in_new (Nat.le_refl _) hm2.out⟩
set_option maxRecDepth 100000 in
set_option maxHeartbeats 4000000 in
theorem bagLook_nil (w : World) (j : Nat) : Calls Try.prog 21 #[.pointer none, .int .i64 (j : Int)] w fun e w' => e = .returned (.tuple #[.agg #[.int .i64 0, .int .i64 0, .int .i64 0, .int .i64 0, .int .i64 0, .int .i64 0, .int .i64 0, .int .i64 0, .int .i64 0, .int .i64 0, .int .i64 0, .string ⟨#[]⟩, .string ⟨#[]⟩, .int .i64 0, .slice none 0 0, .int .i64 0, .int .i64 0, .string ⟨#[]⟩, .bool false, .slice none 0 0], .bool false]) ∧ Mod none_ w w' := by
  have hb0 := Lib.hid (Blk.new w 40 #[.int .i64 0, .int .i64 0, .int .i64 0, .int .i64 0, .int .i64 0, .int .i64 0, .int .i64 0, .int .i64 0, .int .i64 0, .int .i64 0, .int .i64 0, .string ⟨#[]⟩, .string ⟨#[]⟩, .int .i64 0, .slice none 0 0, .int .i64 0, .int .i64 0, .string ⟨#[]⟩, .bool false, .slice none 0 0])
  have hm0 := Lib.hid ((Mod.refl none_ w).alloc (.cells #[.int .i64 0, .int .i64 0, .int .i64 0, .int .i64 0, .int .i64 0, .int .i64 0, .int .i64 0, .int .i64 0, .int .i64 0, .int .i64 0, .int .i64 0, .string ⟨#[]⟩, .string ⟨#[]⟩, .int .i64 0, .slice none 0 0, .int .i64 0, .int .i64 0, .string ⟨#[]⟩, .bool false, .slice none 0 0] 40))
  go_enter Try.func21, Try.ntmps21
  go_wp2_with fail
  refine (bagLen_nil _).mono ?_
  rintro e w1 ⟨rfl, rfl⟩
  go_wp2_with (refine wpList_store_blk rfl 40 (.tmp 4) (.tmp 14) rfl w.heap.size 0 _ rfl rfl hb0.out (by simp) msg_size (by rfl) #[.int .i64 0, .int .i64 0, .int .i64 0, .int .i64 0, .int .i64 0, .int .i64 0, .int .i64 0, .int .i64 0, .int .i64 0, .int .i64 0, .int .i64 0, .string ⟨#[]⟩, .string ⟨#[]⟩, .int .i64 0, .slice none 0 0, .int .i64 0, .int .i64 0, .string ⟨#[]⟩, .bool false, .slice none 0 0] rfl ?_; intro w2 hb2 hm2; replace hb2 := Lib.hid hb2; replace hm2 := Lib.hid hm2)
  refine ret_row_tmp rfl w.heap.size rfl hb2.out Try.underlying40 rfl msg_size (.bool false) rfl rfl ?_
  exact ⟨rfl, hm0.out.in_new (Nat.le_refl _) hm2.out⟩
end Go.Proofs.Ytdekehhmjehicaa
/-
  slices.Delete of one message; the bag: Take, Twice. No condition.
-/
namespace Go.Proofs.Ytdekehhmjehicaa
set_option linter.unusedVariables false
set_option linter.unusedSimpArgs false
open Go.RowKit
/-- append into a row that has room -/
theorem run_append_fit {P : Program} (w : World) (t ty e : TypeId) (i : TypeInfo) (size : Nat) (ht : P.underlying t = some (.slice e)) (hi : P.info? e = some i) (hsize : i.size = size)
    (g n c : Nat) (xs : List Value) (hown : Ow w e size (some ⟨g, 0, none⟩) n c xs) (S : Option Addr) (m d : Nat) (news : List Value) (hr : Rd w size S m news) (h1 : ∀ u ∈ news, u.oneCell' = true) (hroom : n + m ≤ c) :
    ∃ w', (Builtin.append_ #[t, t] ty #[.slice (some ⟨g, 0, none⟩) n c, .slice S m d]).run P w = .ok (.slice (some ⟨g, 0, none⟩) (n + m) c) w' ∧ Ow w' e size (some ⟨g, 0, none⟩) (n + m) c (xs ++ news) ∧ Mod (fp (some (⟨g, 0, none⟩ : Addr))) w w' := by
  subst hsize
  have hlen : (xs ++ news).length = (n + m) * i.size := by rw [List.length_append, hown.1, hr.1, Nat.add_mul]
  obtain ⟨hx1, hnc, hcm, hcase⟩ := hown
  rcases hcase with ⟨h0, _⟩ | ⟨g', cur, h0, hb, h5, h6⟩
  · cases h0
  cases h0
  by_cases hm : m = 0
  · subst hm
    have hn : news = [] := List.eq_nil_of_length_eq_zero (by simpa using hr.1)
    subst hn
    have hf : ∀ S : Option Addr, (Builtin.firstCells i.size 0 (.slice S 0 d)).run P w = .ok #[] w := by
      intro S; cases S <;> simp [Builtin.firstCells, loadCells, loadCellsFrom]
    have hrun : (Builtin.append_ #[t, t] ty #[.slice (some ⟨g, 0, none⟩) n c, .slice S 0 d]).run P w = .ok (.slice (some ⟨g, 0, none⟩) n c) w := by
      simp [Builtin.append_, run_underlying ht, sizeOf, typeInfo, hi, Builtin.lenOf, hf, hnc, storeCells]
    refine ⟨w, by simpa using hrun, ?_, Mod.refl _ w⟩
    simp only [Nat.add_zero, List.append_nil]
    exact ⟨hx1, hnc, hcm, .inr ⟨g, cur, rfl, hb, h5, h6⟩⟩
  · obtain ⟨ad, rfl, hnews⟩ := hr.2 (by omega)
    have hfit : n * i.size + news.length ≤ cur.size := by
      rw [hr.1, ← Nat.add_mul]
      exact Nat.le_trans (Nat.mul_le_mul_right _ hroom) h5
    have hrun := run_append_room (P := P) w t ty e i ht hi g n c cur hb ad m d news hr.1 hnews h1 hroom hfit
    refine ⟨_, hrun, ⟨hlen, hroom, hcm, .inr ⟨g, _, rfl, setRow_heap w g cur _ e _ hb, ?_, ?_⟩⟩, ⟨rfl, rfl, rfl, by simp, fun k hk hf => setRow_other w g k _ (fun e => hf ⟨_, rfl, e.symm⟩)⟩⟩
    · simp only [List.size_toArray, List.length_append, List.length_take, List.length_drop, Array.length_toList]
      omega
    · rw [h6, ← hlen]
      exact List.take_left
theorem run_appM_fit (w : World) (ty : TypeId) {g n c : Nat} {xs : List Ms} (hown : OwM w (some ⟨g, 0, none⟩) n c xs) {S : Option Addr} {m : Nat} (d : Nat) {news : List Ms} (hr : RdM w S m news) (hroom : n + m ≤ c) :
    ∃ w', (Builtin.append_ #[22, 22] ty #[.slice (some ⟨g, 0, none⟩) n c, .slice S m d]).run Try.prog w = .ok (.slice (some ⟨g, 0, none⟩) (n + m) c) w' ∧ OwM w' (some ⟨g, 0, none⟩) (n + m) c (xs ++ news) ∧ Mod (fp (some (⟨g, 0, none⟩ : Addr))) w w' := by
  obtain ⟨i0, hi, hz0, hz1, hz2⟩ := info_parts msinfo
  obtain ⟨w', h1, h2, h3⟩ := run_append_fit (P := Try.prog) w 22 ty 40 i0 20 Try.underlying22 hi hz1 g n c (mss xs) hown S m d (mss news) hr (mss_one _) hroom
  rw [← mss_append] at h2
  exact ⟨w', h1, h2, h3⟩
theorem Ow.widen {w : World} {e : TypeId} {size n c g : Nat} {xs : List Value} (h : Ow w e size (some ⟨g, 0, none⟩) n c xs) {N : Nat} (hn : n ≤ N) (hN : N ≤ c) : ∃ xs', Ow w e size (some ⟨g, 0, none⟩) N c xs' ∧ xs'.take (n * size) = xs := by
  obtain ⟨h1, h2, h3, h4⟩ := h
  rcases h4 with ⟨h0, _⟩ | ⟨g', cur, h0, hb, h5, h6⟩
  · cases h0
  cases h0
  have hNc : N * size ≤ c * size := Nat.mul_le_mul_right _ hN
  have hnN : n * size ≤ N * size := Nat.mul_le_mul_right _ hn
  refine ⟨cur.toList.take (N * size), ⟨by rw [List.length_take, Array.length_toList]; omega, hN, h3, .inr ⟨g, cur, rfl, hb, h5, rfl⟩⟩, ?_⟩
  rw [List.take_take, Nat.min_eq_left hnN, h6]
/-- 'clear' behind the end -/
theorem clearM_behind {w : World} (ty : TypeId) {g n c : Nat} {xs : List Ms} (hown : OwM w (some ⟨g, 0, none⟩) n c xs) (m : Nat) (hm : n + m ≤ c) (S : Option Addr) (d : Nat) (hS : 0 < m → S = some ⟨g, n * 20, none⟩) :
    ∃ w', (Builtin.clear_ #[22] ty #[.slice S m d]).run Try.prog w = .ok (.tuple #[]) w' ∧ OwM w' (some ⟨g, 0, none⟩) n c xs ∧ Mod (fp (some (⟨g, 0, none⟩ : Addr))) w w' := by
  obtain ⟨xs', h1, h2⟩ := Ow.widen hown (N := n + m) (by omega) hm
  obtain ⟨w', r1, r2, r3⟩ := run_clear_ow (P := Try.prog) w 22 40 ty zeroM 20 Try.underlying22 zeroM_run rfl (fun v hv => List.all_eq_true.1 (show zeroM.cells.toList.all (·.oneCell') = true from rfl) v hv) (by omega) _ (n + m) c xs' h1 n (by omega) S m d (by omega) (fun h0 => by rw [hS h0]; simp only [Option.map_some, add_lit])
  rw [h2] at r2
  exact ⟨w', r1, r2, r3⟩
theorem step_appM_fit {w : World} {ops : Array Oper} {o : Oper} {a : Act} {K : Act → World → Prop} {Q : Exit → Act → World → Prop} {E : Prop} (hgd : o.guard = none) (s x : Operand)
    (ho : o.op = .call { callee := .builtin .append, args := #[s, x], argTypes := #[22, 22] })
    {g n c : Nat} {xs : List Ms} (hs : a.eval s = .slice (some ⟨g, 0, none⟩) n c) (hown : OwM w (some ⟨g, 0, none⟩) n c xs)
    {S : Option Addr} {m d : Nat} {news : List Ms} (hx : a.eval x = .slice S m d) (hr : RdM w S m news) (hroom : n + m ≤ c)
    (h : ∀ w', OwM w' (some ⟨g, 0, none⟩) (n + m) c (xs ++ news) → Mod (fp (some (⟨g, 0, none⟩ : Addr))) w w' → K (a.put o.dst (.slice (some ⟨g, 0, none⟩) (n + m) c)) w') : if Region.wanted o (yielded ops a.tmps) = true then Oper.wp Try.prog o a w K Q else E := by
  have hw : Region.wanted o (yielded ops a.tmps) = true := by simp [Region.wanted, hgd]
  rw [if_pos hw]
  obtain ⟨w', hrun, h2, h3⟩ := run_appM_fit w o.type hown d hr hroom
  unfold Oper.wp execOp
  simp only [ho, resolve, invoke, builtin, Sem.run_bind, Sem.run_pure, Result.andThen_ok, List.map_toArray, List.map_cons, List.map_nil, hs, hx, hrun]
  exact h w' h2 h3
set_option maxRecDepth 100000 in
set_option maxHeartbeats 4000000 in
theorem delete1_ok (w : World) (A : Option Addr) (k r d : Nat) (xs : List Ms) (h : OwM w A (k + 1 + r) (k + 1 + d) xs) (hn : k + 1 + r ≤ 400) :
    Calls Try.prog 39 #[.slice A (k + 1 + r) (k + 1 + d), .int .i64 (k : Int), .int .i64 ((k : Int) + 1)] w fun e w' =>
      e = .returned (.slice A (k + r) (k + 1 + d)) ∧ OwM w' A (k + r) (k + 1 + d) (xs.take k ++ xs.drop (k + 1)) ∧ Mod (fp A) w w' := by
  obtain ⟨g, cur, rfl, hb, h5, h6⟩ := Ow.form h (show 0 < k + 1 + r by omega)
  clear hb h5 h6 cur
  have hcn : r ≤ d := by have := h.2.1; omega
  have hcm : k + 1 + d ≤ 9223372036854775807 := by have : k + 1 + d ≤ maxLen := h.2.2.1; simp only [maxLen] at this; omega
  have hl := h.len
  have ht := (h.take (k := k) (by omega)).mod0 (Mod.refl none_ w).drew
  have hd0 := rdM_drop (c := k + 1 + d) h.rd (k := k + 1) (by omega) (by omega)
  rw [show k + 1 + r - (k + 1) = r by omega] at hd0
  have hq1 : ¬ ((k : Int) = (k : Int) + 1) := by omega
  by_cases hd : d = 0
  · subst hd
    obtain rfl : r = 0 := by omega
    have hdr : RdM w.drew (some ⟨g, 0, none⟩) 0 (xs.drop (k + 1)) := by
      rw [if_pos (by omega)] at hd0
      exact hd0
    clear hd0
    replace h := Lib.hid h
    replace ht := Lib.hid ht
    replace hdr := Lib.hid hdr
    replace hl := Lib.hid hl
    go_enter Try.func39, Try.ntmps39
    go_upto_region 5 with fail
    have hb1 : (k : Int) ≤ (k : Int) + 1 := by omega
    have hb2 : 0 ≤ (k : Int) + 1 := by omega
    have hb3 : (k : Int) + 1 ≤ (k : Int) + 1 := by omega
    refine wp_region_held_drew (S := fun _ => True) (by kernel_rfl) trivial (fun hHeld => ?_)
    refine wpAnyH_take (i := 0) (v := ?_) rfl (by kernel_rfl) (by kernel_rfl) (by kernel_rfl) (fun _ _ _ h => h) (Or.inl ⟨by rfl, ?_⟩) (by assumption) ?_
    rotate_left
    · intro W hSw; (try dsimp only at hSw); go_simp; (try with_reducible rfl)
    try simp only [Act.put, List.getElem_toArray, List.getElem_cons_zero, List.getElem_cons_succ, List.setIfInBounds_toArray, List.set_cons_zero, List.set_cons_succ]
    refine wpAnyH_take (i := 1) (v := ?_) rfl (by kernel_rfl) (by kernel_rfl) (by kernel_rfl) (fun _ _ _ h => h) (Or.inl ⟨by rfl, ?_⟩) (by assumption) ?_
    rotate_left
    · intro W hSw; (try dsimp only at hSw); go_simp; (try with_reducible rfl)
    try simp only [Act.put, List.getElem_toArray, List.getElem_cons_zero, List.getElem_cons_succ, List.setIfInBounds_toArray, List.set_cons_zero, List.set_cons_succ]
    refine wpAnyH_take (i := 3) (v := ?_) rfl (by kernel_rfl) (by kernel_rfl) (by kernel_rfl) (fun _ _ _ h => h) (Or.inl ⟨by rfl, ?_⟩) (by assumption) ?_
    rotate_left
    · intro W hSw; (try dsimp only at hSw); go_simp; (try with_reducible rfl)
    try simp only [Act.put, List.getElem_toArray, List.getElem_cons_zero, List.getElem_cons_succ, List.setIfInBounds_toArray, List.set_cons_zero, List.set_cons_succ]
    refine wpAnyH_take (i := 4) (v := ?_) rfl (by kernel_rfl) (by kernel_rfl) (by kernel_rfl) (fun _ _ _ h => h) (Or.inl ⟨by rfl, ?_⟩) (by assumption) ?_
    rotate_left
    · intro W hSw; (try dsimp only at hSw); go_simp; (try with_reducible rfl)
    try simp only [Act.put, List.getElem_toArray, List.getElem_cons_zero, List.getElem_cons_succ, List.setIfInBounds_toArray, List.set_cons_zero, List.set_cons_succ]
    refine wpAnyH_take (i := 2) (v := ?_) rfl (by kernel_rfl) (by kernel_rfl) (by kernel_rfl) (fun _ _ _ h => h) (Or.inl ⟨by rfl, ?_⟩) (by assumption) ?_
    rotate_left
    · intro W hSw; (try dsimp only at hSw); go_simp; (try with_reducible rfl)
    try simp only [Act.put, List.getElem_toArray, List.getElem_cons_zero, List.getElem_cons_succ, List.setIfInBounds_toArray, List.set_cons_zero, List.set_cons_succ]
    refine wpAnyH_take (i := 5) (v := ?_) rfl (by kernel_rfl) (by kernel_rfl) (by kernel_rfl) (fun _ _ _ h => h) (Or.inl ⟨by rfl, ?_⟩) (by assumption) ?_
    rotate_left
    · intro W hSw; (try dsimp only at hSw); go_simp; (try with_reducible rfl)
    try simp only [Act.put, List.getElem_toArray, List.getElem_cons_zero, List.getElem_cons_succ, List.setIfInBounds_toArray, List.set_cons_zero, List.set_cons_succ]
    clear hb1 hb2 hb3
    refine wpAnyH_ready (rs := [6]) (by kernel_rfl) (by simp) ?_
    refine AllReadyH.cons rfl (fun K hK => ?_) AllReadyH.nil
    refine step_appM_fit rfl (.tmp 22) (.tmp 25) rfl rfl ht.out rfl hdr.out (by omega) ?_
    intro w1 ho1 hm1
    obtain ⟨w2, hrun2, ho2, hm2⟩ := clearM_behind 0 ho1 1 (by omega) (some ⟨g, (k + 0) * 20, none⟩) (1) (fun _ => rfl)
    rw [show k + 0 = k from rfl] at hrun2 ho2
    have hmm := Lib.hid (((Mod.refl (fp (some (⟨g, 0, none⟩ : Addr))) w).drew.trans hm1).trans hm2)
    clear ho1 hm1 hm2
    replace ho2 := Lib.hid ho2
    refine hK.out _ _ (trivial) (fun hHeld => ?_)
    clear hK K
    try simp only [Act.put, List.getElem_toArray, List.getElem_cons_zero, List.getElem_cons_succ, List.setIfInBounds_toArray, List.set_cons_zero, List.set_cons_succ]
    refine wpAnyH_take (i := 7) (v := ?_) rfl (by kernel_rfl) (by kernel_rfl) (by kernel_rfl) (fun _ _ _ h => h) (Or.inl ⟨by rfl, ?_⟩) (by assumption) ?_
    rotate_left
    · intro W hSw; (try dsimp only at hSw); go_simp; (try with_reducible rfl)
    try simp only [Act.put, List.getElem_toArray, List.getElem_cons_zero, List.getElem_cons_succ, List.setIfInBounds_toArray, List.set_cons_zero, List.set_cons_succ]
    refine wpAnyH_done (by kernel_rfl) ?_ _
    clear hHeld
    go_wp2_with fail
    go_ret
    exact ⟨rfl, ho2.out, hmm.out⟩
  · have hdr : RdM w.drew (some ⟨g, (k + 1) * 20, none⟩) r (xs.drop (k + 1)) := by
      rw [if_neg (by omega)] at hd0
      simp only [Option.map_some, add_lit] at hd0
      exact hd0
    clear hd0
    replace h := Lib.hid h
    replace ht := Lib.hid ht
    replace hdr := Lib.hid hdr
    replace hl := Lib.hid hl
    go_enter Try.func39, Try.ntmps39
    go_upto_region 5 with fail
    have hb1 : (k : Int) ≤ (k : Int) + 1 + (d : Int) := by omega
    have hb2 : 0 ≤ (k : Int) + 1 := by omega
    have hb3 : (k : Int) + 1 ≤ (k : Int) + 1 + (r : Int) := by omega
    refine wp_region_held_drew (S := fun _ => True) (by kernel_rfl) trivial (fun hHeld => ?_)
    refine wpAnyH_take (i := 0) (v := ?_) rfl (by kernel_rfl) (by kernel_rfl) (by kernel_rfl) (fun _ _ _ h => h) (Or.inl ⟨by rfl, ?_⟩) (by assumption) ?_
    rotate_left
    · intro W hSw; (try dsimp only at hSw); go_simp; (try with_reducible rfl)
    try simp only [Act.put, List.getElem_toArray, List.getElem_cons_zero, List.getElem_cons_succ, List.setIfInBounds_toArray, List.set_cons_zero, List.set_cons_succ]
    refine wpAnyH_take (i := 1) (v := ?_) rfl (by kernel_rfl) (by kernel_rfl) (by kernel_rfl) (fun _ _ _ h => h) (Or.inl ⟨by rfl, ?_⟩) (by assumption) ?_
    rotate_left
    · intro W hSw; (try dsimp only at hSw); go_simp; (try with_reducible rfl)
    try simp only [Act.put, List.getElem_toArray, List.getElem_cons_zero, List.getElem_cons_succ, List.setIfInBounds_toArray, List.set_cons_zero, List.set_cons_succ]
    refine wpAnyH_take (i := 3) (v := ?_) rfl (by kernel_rfl) (by kernel_rfl) (by kernel_rfl) (fun _ _ _ h => h) (Or.inl ⟨by rfl, ?_⟩) (by assumption) ?_
    rotate_left
    · intro W hSw; (try dsimp only at hSw); go_simp; (try with_reducible rfl)
    try simp only [Act.put, List.getElem_toArray, List.getElem_cons_zero, List.getElem_cons_succ, List.setIfInBounds_toArray, List.set_cons_zero, List.set_cons_succ]
    refine wpAnyH_take (i := 4) (v := ?_) rfl (by kernel_rfl) (by kernel_rfl) (by kernel_rfl) (fun _ _ _ h => h) (Or.inl ⟨by rfl, ?_⟩) (by assumption) ?_
    rotate_left
    · intro W hSw; (try dsimp only at hSw); go_simp; (try with_reducible rfl)
    try simp only [Act.put, List.getElem_toArray, List.getElem_cons_zero, List.getElem_cons_succ, List.setIfInBounds_toArray, List.set_cons_zero, List.set_cons_succ]
    refine wpAnyH_take (i := 2) (v := ?_) rfl (by kernel_rfl) (by kernel_rfl) (by kernel_rfl) (fun _ _ _ h => h) (Or.inl ⟨by rfl, ?_⟩) (by assumption) ?_
    rotate_left
    · intro W hSw; (try dsimp only at hSw); go_simp; (try with_reducible rfl)
    try simp only [Act.put, List.getElem_toArray, List.getElem_cons_zero, List.getElem_cons_succ, List.setIfInBounds_toArray, List.set_cons_zero, List.set_cons_succ]
    refine wpAnyH_take (i := 5) (v := ?_) rfl (by kernel_rfl) (by kernel_rfl) (by kernel_rfl) (fun _ _ _ h => h) (Or.inl ⟨by rfl, ?_⟩) (by assumption) ?_
    rotate_left
    · intro W hSw; (try dsimp only at hSw); go_simp; (try with_reducible rfl)
    try simp only [Act.put, List.getElem_toArray, List.getElem_cons_zero, List.getElem_cons_succ, List.setIfInBounds_toArray, List.set_cons_zero, List.set_cons_succ]
    clear hb1 hb2 hb3
    refine wpAnyH_ready (rs := [6]) (by kernel_rfl) (by simp) ?_
    refine AllReadyH.cons rfl (fun K hK => ?_) AllReadyH.nil
    refine step_appM_fit rfl (.tmp 22) (.tmp 25) rfl rfl ht.out rfl hdr.out (by omega) ?_
    intro w1 ho1 hm1
    obtain ⟨w2, hrun2, ho2, hm2⟩ := clearM_behind 0 ho1 (k + 1 + r - (k + r)) (by omega) (some ⟨g, (k + r) * 20, none⟩) (k + 1 + d - (k + r)) (fun _ => rfl)
    have hmm := Lib.hid (((Mod.refl (fp (some (⟨g, 0, none⟩ : Addr))) w).drew.trans hm1).trans hm2)
    clear ho1 hm1 hm2
    replace ho2 := Lib.hid ho2
    refine hK.out _ _ (trivial) (fun hHeld => ?_)
    clear hK K
    try simp only [Act.put, List.getElem_toArray, List.getElem_cons_zero, List.getElem_cons_succ, List.setIfInBounds_toArray, List.set_cons_zero, List.set_cons_succ]
    refine wpAnyH_take (i := 7) (v := ?_) rfl (by kernel_rfl) (by kernel_rfl) (by kernel_rfl) (fun _ _ _ h => h) (Or.inl ⟨by rfl, ?_⟩) (by assumption) ?_
    rotate_left
    · intro W hSw; (try dsimp only at hSw); go_simp; (try with_reducible rfl)
    try simp only [Act.put, List.getElem_toArray, List.getElem_cons_zero, List.getElem_cons_succ, List.setIfInBounds_toArray, List.set_cons_zero, List.set_cons_succ]
    refine wpAnyH_done (by kernel_rfl) ?_ _
    clear hHeld
    go_wp2_with fail
    go_ret
    exact ⟨rfl, ho2.out, hmm.out⟩
def dropAt (xs : List Ms) (k : Nat) : List Ms := xs.take k ++ xs.drop (k + 1)
/-- what Take leaves -/
def takeL (xs : List Ms) (k : Int) : List Ms := match lookR xs k with | none => xs | some _ => dropAt xs k.toNat
theorem lookR_some {xs : List Ms} {k : Int} {x : Ms} (h : lookR xs k = some x) : 0 ≤ k ∧ k.toNat < xs.length ∧ xs[k.toNat]? = some x := by
  unfold lookR at h
  by_cases hk : 0 ≤ k
  · rw [if_pos hk] at h
    refine ⟨hk, ?_, h⟩
    rcases Nat.lt_or_ge k.toNat xs.length with h1 | h1
    · exact h1
    · rw [List.getElem?_eq_none h1] at h; cases h
  · rw [if_neg hk] at h; cases h
set_option maxRecDepth 100000 in
set_option maxHeartbeats 4000000 in
theorem bagTake_ok (w : World) (p : Nat) (A : Option Addr) (n c : Nat) (xs : List Ms) (h : BagSt w p A n c xs) (hn : n ≤ 400) (k : Int) :
    Calls Try.prog 17 #[.pointer (some ⟨p, 0, none⟩), .int .i64 k] w fun e w' => ∃ v n', e = .returned v ∧ LookV xs k v ∧ BagSt w' p A n' c (takeL xs k) ∧ n' ≤ 400 ∧ Mod (bagF p A) w w' := by
  have hb0 := Lib.hid (Blk.new w 40 #[.int .i64 0, .int .i64 0, .int .i64 0, .int .i64 0, .int .i64 0, .int .i64 0, .int .i64 0, .int .i64 0, .int .i64 0, .int .i64 0, .int .i64 0, .string ⟨#[]⟩, .string ⟨#[]⟩, .int .i64 0, .slice none 0 0, .int .i64 0, .int .i64 0, .string ⟨#[]⟩, .bool false, .slice none 0 0])
  have hm0 := (Mod.refl none_ w).alloc (.cells #[.int .i64 0, .int .i64 0, .int .i64 0, .int .i64 0, .int .i64 0, .int .i64 0, .int .i64 0, .int .i64 0, .int .i64 0, .int .i64 0, .int .i64 0, .string ⟨#[]⟩, .string ⟨#[]⟩, .int .i64 0, .slice none 0 0, .int .i64 0, .int .i64 0, .string ⟨#[]⟩, .bool false, .slice none 0 0] 40)
  have h0 := Lib.hid (h.mod0 hm0)
  have hl := h.len
  have hwp := Lib.hid h.blk.lt
  have hwA := Lib.hid (h.ow.lt)
  have kL := Lib.hid (bagLook_ok _ p A n c xs h0.out k)
  replace hm0 := Lib.hid hm0
  replace hl := Lib.hid hl
  go_enter Try.func17, Try.ntmps17
  go_wp2_with fail
  with_reducible refine kL.out.mono ?_
  rintro e w1 ⟨v, rfl, hv, hm1⟩
  have hb1 := hb0.out.mod hm1 (fun h => h)
  have hs1 := h0.out.mod0 hm1
  have hM1 := hm0.out.trans hm1
  have hq := Lib.hid (Blk.new w1 40 #[.int .i64 0, .int .i64 0, .int .i64 0, .int .i64 0, .int .i64 0, .int .i64 0, .int .i64 0, .int .i64 0, .int .i64 0, .int .i64 0, .int .i64 0, .string ⟨#[]⟩, .string ⟨#[]⟩, .int .i64 0, .slice none 0 0, .int .i64 0, .int .i64 0, .string ⟨#[]⟩, .bool false, .slice none 0 0])
  have hsz := hM1.size
  rcases hv with ⟨x, hx, rfl⟩ | ⟨hx, rfl⟩
  · dsimp only
    obtain ⟨j1, j2, j3⟩ := lookR_some hx
    obtain ⟨j, rfl⟩ : ∃ j : Nat, k = (j : Int) := ⟨k.toNat, by omega⟩
    simp only [Int.toNat_natCast] at j2 j3
    obtain ⟨r, hr⟩ : ∃ r, n = j + 1 + r := ⟨n - (j + 1), by have := hl.out; omega⟩
    subst hr
    obtain ⟨d, hd⟩ : ∃ d, c = j + 1 + d := ⟨c - (j + 1), by have := h.ow.2.1; omega⟩
    subst hd
    have htk : Hid (takeL xs (j : Int) = xs.take j ++ xs.drop (j + 1)) := Lib.hid (by unfold takeL; rw [hx]; rfl)
    clear j1 j2 j3
    replace hb1 := Lib.hid hb1
    replace hs1 := Lib.hid hs1
    replace hM1 := Lib.hid hM1
    replace hx := Lib.hid hx
    replace hsz := Lib.hid hsz
    go_wp2_with (refine wpList_store_blk rfl 40 (.tmp 6) (.tmp 12) rfl w1.heap.size 0 _ rfl rfl hq.out (by simp) msg_size (by rfl) #[.int .i64 x.m.frm, .int .i64 x.m.to, .int .i64 x.m.kind, .int .i64 x.m.r.i.r, .int .i64 x.m.r.i.n, .int .i64 x.m.r.bal, .int .i64 x.m.r.st, .int .i64 x.m.r.by_, .int .i64 x.m.r.e.o.c, .int .i64 x.m.r.e.o.s, .int .i64 x.m.r.e.o.k, .string (txt x.m.r.e.o.acct), .string (txt x.m.r.e.o.peer), .int .i64 x.m.r.e.o.sum, .slice x.L.a x.L.n x.L.c, .int .i64 x.m.r.e.o.per, .int .i64 x.m.r.e.o.hold, .string (txt x.m.r.e.o.note), .bool x.m.r.e.none, .slice x.D.a x.D.n x.D.c] rfl ?_; intro w2 hq2 hm2; have hm2' := ((Mod.refl none_ w1).alloc (.cells #[.int .i64 0, .int .i64 0, .int .i64 0, .int .i64 0, .int .i64 0, .int .i64 0, .int .i64 0, .int .i64 0, .int .i64 0, .int .i64 0, .int .i64 0, .string ⟨#[]⟩, .string ⟨#[]⟩, .int .i64 0, .slice none 0 0, .int .i64 0, .int .i64 0, .string ⟨#[]⟩, .bool false, .slice none 0 0] 40)).in_new (Nat.le_refl _) hm2; have hs2 := hs1.out.mod0 hm2'; have hb2 := hb1.out.mod hm2' (fun h => h); have hM2 := hM1.out.trans hm2'; have c2 : w2.cell? ⟨p, 0, none⟩ = some (.slice A (j + 1 + r) (j + 1 + d)) := hs2.blk.cell_ rfl; replace hs2 := Lib.hid hs2; replace hb2 := Lib.hid hb2; replace hM2 := Lib.hid hM2; replace hq2 := Lib.hid hq2; clear hm2 hm2')
    with_reducible refine (delete1_ok w2 A j r d xs hs2.out.ow hn).mono ?_
    rintro e w3 ⟨rfl, ho3, hm3⟩
    dsimp only
    have hne1 : ¬ w1.heap.size = p := by have := hwp.out; have := hsz.out; omega
    have hne2 : ¬ w.heap.size = p := by have := hwp.out; omega
    have hbp : Blk w3 p 81 #[.slice A (j + 1 + r) (j + 1 + d)] := hs2.out.blk.mod hm3 hs2.out.np
    have c3 : w3.cell? ⟨p, 0, none⟩ = some (.slice A (j + 1 + r) (j + 1 + d)) := hbp.cell_ rfl
    have f3 : w3.frozen? ⟨p, 0, none⟩ = false := hbp.frozen 0
    have hq3 : Blk w3 w1.heap.size 40 #[.int .i64 x.m.frm, .int .i64 x.m.to, .int .i64 x.m.kind, .int .i64 x.m.r.i.r, .int .i64 x.m.r.i.n, .int .i64 x.m.r.bal, .int .i64 x.m.r.st, .int .i64 x.m.r.by_, .int .i64 x.m.r.e.o.c, .int .i64 x.m.r.e.o.s, .int .i64 x.m.r.e.o.k, .string (txt x.m.r.e.o.acct), .string (txt x.m.r.e.o.peer), .int .i64 x.m.r.e.o.sum, .slice x.L.a x.L.n x.L.c, .int .i64 x.m.r.e.o.per, .int .i64 x.m.r.e.o.hold, .string (txt x.m.r.e.o.note), .bool x.m.r.e.none, .slice x.D.a x.D.n x.D.c] := hq2.out.mod hm3 (fun hh => by have := hwA.out _ hh; have := hsz.out; omega)
    have hb3 : Blk w3 w.heap.size 40 #[.int .i64 0, .int .i64 0, .int .i64 0, .int .i64 0, .int .i64 0, .int .i64 0, .int .i64 0, .int .i64 0, .int .i64 0, .int .i64 0, .int .i64 0, .string ⟨#[]⟩, .string ⟨#[]⟩, .int .i64 0, .slice none 0 0, .int .i64 0, .int .i64 0, .string ⟨#[]⟩, .bool false, .slice none 0 0] := hb2.out.mod hm3 (fun hh => by have := hwA.out _ hh; omega)
    have hM3 := (hM2.out.any (bagF p A)).trans (hm3.mono (fun k hk => .inr hk))
    have hq4 := Lib.hid (hq3.far (p := ⟨p, 0, none⟩) hne1 (.slice A (j + r) (j + 1 + d)))
    have hb4 := Lib.hid (hb3.far (p := ⟨p, 0, none⟩) hne2 (.slice A (j + r) (j + 1 + d)))
    have hM4 := Lib.hid (hM3.setCell (p := ⟨p, 0, none⟩) (.inl (.inl rfl)) (.slice A (j + r) (j + 1 + d)))
    have hs4 : Hid (BagSt (w3.setCell ⟨p, 0, none⟩ (.slice A (j + r) (j + 1 + d))) p A (j + r) (j + 1 + d) (xs.take j ++ xs.drop (j + 1))) :=
      Lib.hid ⟨hbp.set_ 0 _, ho3.mod ((Mod.refl (only p) w3).set_only 0 _) (fun k hk hh => by have : k = p := hh; subst this; exact hs2.out.np hk), hs2.out.np⟩
    clear hm3 ho3 hbp hq3 hb3 hM3 c2 hs2 hb2 hM2 hq2
    replace hne1 := Lib.hid hne1
    replace hne2 := Lib.hid hne2
    go_wp2_with (first
      | (refine wpList_load_row rfl 40 (.tmp 6) rfl w1.heap.size rfl _ _ _ _ hq4.out Try.underlying40 rfl msg_size ?_)
      | (refine wpList_store_blk rfl 40 (.tmp 4) (.tmp 26) rfl w.heap.size 0 _ rfl rfl hb4.out (by simp) msg_size (by rfl) #[.int .i64 x.m.frm, .int .i64 x.m.to, .int .i64 x.m.kind, .int .i64 x.m.r.i.r, .int .i64 x.m.r.i.n, .int .i64 x.m.r.bal, .int .i64 x.m.r.st, .int .i64 x.m.r.by_, .int .i64 x.m.r.e.o.c, .int .i64 x.m.r.e.o.s, .int .i64 x.m.r.e.o.k, .string (txt x.m.r.e.o.acct), .string (txt x.m.r.e.o.peer), .int .i64 x.m.r.e.o.sum, .slice x.L.a x.L.n x.L.c, .int .i64 x.m.r.e.o.per, .int .i64 x.m.r.e.o.hold, .string (txt x.m.r.e.o.note), .bool x.m.r.e.none, .slice x.D.a x.D.n x.D.c] rfl ?_; intro w5 hb5 hm5; replace hb5 := Lib.hid hb5; replace hm5 := Lib.hid hm5))
    refine ret_row_tmp rfl w.heap.size rfl hb5.out Try.underlying40 rfl msg_size (.bool true) rfl rfl ?_
    refine ⟨_, j + r, rfl, .inl ⟨x, hx.out, rfl⟩, ?_, by omega, hM4.out.then hm5.out (fun i hi hk => by have : i = w.heap.size := hk; omega)⟩
    rw [htk.out]
    exact hs4.out.mod hm5.out (fun hh => by have : p = w.heap.size := hh; have := hwp.out; omega) (fun k hk hh => by have : k = w.heap.size := hh; have := hwA.out k hk; omega)
  · dsimp only
    have htk : Hid (takeL xs k = xs) := Lib.hid (by unfold takeL; rw [hx])
    replace hb1 := Lib.hid hb1
    replace hs1 := Lib.hid hs1
    replace hM1 := Lib.hid hM1
    replace hx := Lib.hid hx
    replace hsz := Lib.hid hsz
    go_wp2_with (first
      | (refine wpList_store_blk rfl 40 (.tmp 6) (.tmp 12) rfl w1.heap.size 0 _ rfl rfl hq.out (by simp) msg_size (by rfl) #[.int .i64 0, .int .i64 0, .int .i64 0, .int .i64 0, .int .i64 0, .int .i64 0, .int .i64 0, .int .i64 0, .int .i64 0, .int .i64 0, .int .i64 0, .string ⟨#[]⟩, .string ⟨#[]⟩, .int .i64 0, .slice none 0 0, .int .i64 0, .int .i64 0, .string ⟨#[]⟩, .bool false, .slice none 0 0] rfl ?_; intro w2 hq2 hm2; have hm2' := ((Mod.refl none_ w1).alloc (.cells #[.int .i64 0, .int .i64 0, .int .i64 0, .int .i64 0, .int .i64 0, .int .i64 0, .int .i64 0, .int .i64 0, .int .i64 0, .int .i64 0, .int .i64 0, .string ⟨#[]⟩, .string ⟨#[]⟩, .int .i64 0, .slice none 0 0, .int .i64 0, .int .i64 0, .string ⟨#[]⟩, .bool false, .slice none 0 0] 40)).in_new (Nat.le_refl _) hm2; have hs2 := Lib.hid (hs1.out.mod0 hm2'); have hb2 := Lib.hid (hb1.out.mod hm2' (fun h => h)); have hM2 := Lib.hid (hM1.out.trans hm2'); replace hq2 := Lib.hid hq2; clear hm2 hm2')
      | (refine wpList_load_row rfl 40 (.tmp 6) rfl w1.heap.size rfl _ _ _ _ hq2.out Try.underlying40 rfl msg_size ?_)
      | (refine wpList_store_blk rfl 40 (.tmp 4) (.tmp 26) rfl w.heap.size 0 _ rfl rfl hb2.out (by simp) msg_size (by rfl) #[.int .i64 0, .int .i64 0, .int .i64 0, .int .i64 0, .int .i64 0, .int .i64 0, .int .i64 0, .int .i64 0, .int .i64 0, .int .i64 0, .int .i64 0, .string ⟨#[]⟩, .string ⟨#[]⟩, .int .i64 0, .slice none 0 0, .int .i64 0, .int .i64 0, .string ⟨#[]⟩, .bool false, .slice none 0 0] rfl ?_; intro w5 hb5 hm5; replace hb5 := Lib.hid hb5; replace hm5 := Lib.hid hm5))
    refine ret_row_tmp rfl w.heap.size rfl hb5.out Try.underlying40 rfl msg_size (.bool false) rfl rfl ?_
    refine ⟨_, n, rfl, .inr ⟨hx.out, rfl⟩, ?_, hn, (hM2.out.any _).then hm5.out (fun i hi hk => by have : i = w.heap.size := hk; omega)⟩
    rw [htk.out]
    exact hs2.out.mod hm5.out (fun hh => by have : p = w.heap.size := hh; have := hwp.out; omega) (fun k hk hh => by have : k = w.heap.size := hh; have := hwA.out k hk; omega)
end Go.Proofs.Ytdekehhmjehicaa
/-
  The bag: Twice, For. No condition.
-/
namespace Go.Proofs.Ytdekehhmjehicaa
set_option linter.unusedVariables false
set_option linter.unusedSimpArgs false
open Go.RowKit
/-- what Twice leaves, and tells -/
def twiceL (xs : List Ms) (k : Int) (n : Nat) : List Ms := match lookR xs k with | none => xs | some x => if n < 400 then xs ++ [x] else xs
def twiceB (xs : List Ms) (k : Int) (n : Nat) : Bool := match lookR xs k with | none => false | some _ => decide (n < 400)
theorem rdM_one (w : World) (x : Ms) : RdM (w.alloc (.cells #[.int .i64 x.m.frm, .int .i64 x.m.to, .int .i64 x.m.kind, .int .i64 x.m.r.i.r, .int .i64 x.m.r.i.n, .int .i64 x.m.r.bal, .int .i64 x.m.r.st, .int .i64 x.m.r.by_, .int .i64 x.m.r.e.o.c, .int .i64 x.m.r.e.o.s, .int .i64 x.m.r.e.o.k, .string (txt x.m.r.e.o.acct), .string (txt x.m.r.e.o.peer), .int .i64 x.m.r.e.o.sum, .slice x.L.a x.L.n x.L.c, .int .i64 x.m.r.e.o.per, .int .i64 x.m.r.e.o.hold, .string (txt x.m.r.e.o.note), .bool x.m.r.e.none, .slice x.D.a x.D.n x.D.c] 40)) (some ⟨w.heap.size, 0, none⟩) 1 [x] :=
  rdn w 40 20 1 w.heap.size #[.int .i64 x.m.frm, .int .i64 x.m.to, .int .i64 x.m.kind, .int .i64 x.m.r.i.r, .int .i64 x.m.r.i.n, .int .i64 x.m.r.bal, .int .i64 x.m.r.st, .int .i64 x.m.r.by_, .int .i64 x.m.r.e.o.c, .int .i64 x.m.r.e.o.s, .int .i64 x.m.r.e.o.k, .string (txt x.m.r.e.o.acct), .string (txt x.m.r.e.o.peer), .int .i64 x.m.r.e.o.sum, .slice x.L.a x.L.n x.L.c, .int .i64 x.m.r.e.o.per, .int .i64 x.m.r.e.o.hold, .string (txt x.m.r.e.o.note), .bool x.m.r.e.none, .slice x.D.a x.D.n x.D.c] (0, 0) rfl rfl
set_option maxRecDepth 100000 in
set_option maxHeartbeats 4000000 in
theorem bagTwice_ok (w : World) (p : Nat) (A : Option Addr) (n c : Nat) (xs : List Ms) (h : BagSt w p A n c xs) (hn : n ≤ 400) (k : Int) :
    Calls Try.prog 16 #[.pointer (some ⟨p, 0, none⟩), .int .i64 k] w fun e w' =>
      ∃ A' n' c', e = .returned (.bool (twiceB xs k n)) ∧ BagSt w' p A' n' c' (twiceL xs k n) ∧ n' ≤ 400 ∧ Mod (bagF p A) w w' ∧ ∀ i, fp A' i → fp A i ∨ w.heap.size ≤ i := by
  have kL := Lib.hid (bagLook_ok w p A n c xs h k)
  have h0 := Lib.hid h
  clear h
  go_enter Try.func16, Try.ntmps16
  go_wp2_with fail
  with_reducible refine kL.out.mono ?_
  rintro e w1 ⟨v, rfl, hv, hm1⟩
  have hs1 := Lib.hid (h0.out.mod0 hm1)
  have hq := Lib.hid (Blk.new w1 40 #[.int .i64 0, .int .i64 0, .int .i64 0, .int .i64 0, .int .i64 0, .int .i64 0, .int .i64 0, .int .i64 0, .int .i64 0, .int .i64 0, .int .i64 0, .string ⟨#[]⟩, .string ⟨#[]⟩, .int .i64 0, .slice none 0 0, .int .i64 0, .int .i64 0, .string ⟨#[]⟩, .bool false, .slice none 0 0])
  rcases hv with ⟨x, hx, rfl⟩ | ⟨hx, rfl⟩
  · dsimp only
    have hB : Hid (twiceB xs k n = decide (n < 400)) := Lib.hid (by unfold twiceB; rw [hx])
    have hL : Hid (twiceL xs k n = if n < 400 then xs ++ [x] else xs) := Lib.hid (by unfold twiceL; rw [hx])
    replace hx := Lib.hid hx
    replace hm1 := Lib.hid hm1
    go_wp2_with (first
      | (refine wpList_store_blk rfl 40 (.tmp 5) (.tmp 11) rfl w1.heap.size 0 _ rfl rfl hq.out (by simp) msg_size (by rfl) #[.int .i64 x.m.frm, .int .i64 x.m.to, .int .i64 x.m.kind, .int .i64 x.m.r.i.r, .int .i64 x.m.r.i.n, .int .i64 x.m.r.bal, .int .i64 x.m.r.st, .int .i64 x.m.r.by_, .int .i64 x.m.r.e.o.c, .int .i64 x.m.r.e.o.s, .int .i64 x.m.r.e.o.k, .string (txt x.m.r.e.o.acct), .string (txt x.m.r.e.o.peer), .int .i64 x.m.r.e.o.sum, .slice x.L.a x.L.n x.L.c, .int .i64 x.m.r.e.o.per, .int .i64 x.m.r.e.o.hold, .string (txt x.m.r.e.o.note), .bool x.m.r.e.none, .slice x.D.a x.D.n x.D.c] rfl ?_; intro w2 hq2 hm2; have hm2' := ((Mod.refl none_ w1).alloc (.cells #[.int .i64 0, .int .i64 0, .int .i64 0, .int .i64 0, .int .i64 0, .int .i64 0, .int .i64 0, .int .i64 0, .int .i64 0, .int .i64 0, .int .i64 0, .string ⟨#[]⟩, .string ⟨#[]⟩, .int .i64 0, .slice none 0 0, .int .i64 0, .int .i64 0, .string ⟨#[]⟩, .bool false, .slice none 0 0] 40)).in_new (Nat.le_refl _) hm2; have hM2 := Lib.hid (hm1.out.trans hm2'); have hs2 := Lib.hid (hs1.out.mod0 (hm2'.alloc (.cells #[.int .i64 x.m.frm, .int .i64 x.m.to, .int .i64 x.m.kind, .int .i64 x.m.r.i.r, .int .i64 x.m.r.i.n, .int .i64 x.m.r.bal, .int .i64 x.m.r.st, .int .i64 x.m.r.by_, .int .i64 x.m.r.e.o.c, .int .i64 x.m.r.e.o.s, .int .i64 x.m.r.e.o.k, .string (txt x.m.r.e.o.acct), .string (txt x.m.r.e.o.peer), .int .i64 x.m.r.e.o.sum, .slice x.L.a x.L.n x.L.c, .int .i64 x.m.r.e.o.per, .int .i64 x.m.r.e.o.hold, .string (txt x.m.r.e.o.note), .bool x.m.r.e.none, .slice x.D.a x.D.n x.D.c] 40))); replace hq2 := Lib.hid hq2; clear hm2 hm2')
      | (refine wpList_step (fun K hK => ?_); rw [if_pos (by rfl)]; refine wp_load_row 40 (.tmp 5) rfl w1.heap.size rfl _ _ _ _ hq2.out Try.underlying40 rfl msg_size ?_; refine hK _ _ ?_))
    have kP := bagput_ok _ p A n c xs hs2.out hn (some ⟨w2.heap.size, 0, none⟩) 1 1 [x] (rdM_one w2 x) (by omega) (by omega)
    unfold PutPost at kP
    simp only [List.length_singleton] at kP
    with_reducible refine kP.mono ?_
    rintro e w3 ⟨A3, c3, rfl, hb3, hm3, hf3⟩
    dsimp only
    have hM3 := Lib.hid (((hM2.out.alloc (.cells #[.int .i64 x.m.frm, .int .i64 x.m.to, .int .i64 x.m.kind, .int .i64 x.m.r.i.r, .int .i64 x.m.r.i.n, .int .i64 x.m.r.bal, .int .i64 x.m.r.st, .int .i64 x.m.r.by_, .int .i64 x.m.r.e.o.c, .int .i64 x.m.r.e.o.s, .int .i64 x.m.r.e.o.k, .string (txt x.m.r.e.o.acct), .string (txt x.m.r.e.o.peer), .int .i64 x.m.r.e.o.sum, .slice x.L.a x.L.n x.L.c, .int .i64 x.m.r.e.o.per, .int .i64 x.m.r.e.o.hold, .string (txt x.m.r.e.o.note), .bool x.m.r.e.none, .slice x.D.a x.D.n x.D.c] 40)).any (bagF p A)).trans hm3)
    have hf4 : Hid (∀ i, fp A3 i → fp A i ∨ w.heap.size ≤ i) := Lib.hid (fun i hi => by
      rcases hf3 i hi with h1 | h1
      · exact .inl h1
      · exact .inr (Nat.le_trans (hM2.out.alloc (.cells #[.int .i64 x.m.frm, .int .i64 x.m.to, .int .i64 x.m.kind, .int .i64 x.m.r.i.r, .int .i64 x.m.r.i.n, .int .i64 x.m.r.bal, .int .i64 x.m.r.st, .int .i64 x.m.r.by_, .int .i64 x.m.r.e.o.c, .int .i64 x.m.r.e.o.s, .int .i64 x.m.r.e.o.k, .string (txt x.m.r.e.o.acct), .string (txt x.m.r.e.o.peer), .int .i64 x.m.r.e.o.sum, .slice x.L.a x.L.n x.L.c, .int .i64 x.m.r.e.o.per, .int .i64 x.m.r.e.o.hold, .string (txt x.m.r.e.o.note), .bool x.m.r.e.none, .slice x.D.a x.D.n x.D.c] 40)).size h1))
    clear hm3 hf3 kP
    by_cases hlt : n < 400
    · have hp1 : putN 1 n = 1 := by unfold putN; omega
      rw [hp1] at hb3 ⊢
      simp only [List.take_succ_cons, List.take_zero] at hb3
      replace hb3 := Lib.hid hb3
      go_wp2_with fail
      go_ret
      refine ⟨A3, n + 1, c3, by rw [hB.out, decide_eq_true hlt]; rfl, by rw [hL.out, if_pos hlt]; exact hb3.out, by omega, hM3.out, hf4.out⟩
    · have hp1 : putN 1 n = 0 := by unfold putN; omega
      rw [hp1] at hb3 ⊢
      simp only [List.take_zero, List.append_nil, Nat.add_zero] at hb3
      replace hb3 := Lib.hid hb3
      go_wp2_with fail
      go_ret
      refine ⟨A3, n, c3, by rw [hB.out, decide_eq_false hlt]; rfl, by rw [hL.out, if_neg hlt]; exact hb3.out, hn, hM3.out, hf4.out⟩
  · dsimp only
    have hB : Hid (twiceB xs k n = false) := Lib.hid (by unfold twiceB; rw [hx])
    have hL : Hid (twiceL xs k n = xs) := Lib.hid (by unfold twiceL; rw [hx])
    replace hx := Lib.hid hx
    replace hm1 := Lib.hid hm1
    go_wp2_with (refine wpList_store_blk rfl 40 (.tmp 5) (.tmp 11) rfl w1.heap.size 0 _ rfl rfl hq.out (by simp) msg_size (by rfl) #[.int .i64 0, .int .i64 0, .int .i64 0, .int .i64 0, .int .i64 0, .int .i64 0, .int .i64 0, .int .i64 0, .int .i64 0, .int .i64 0, .int .i64 0, .string ⟨#[]⟩, .string ⟨#[]⟩, .int .i64 0, .slice none 0 0, .int .i64 0, .int .i64 0, .string ⟨#[]⟩, .bool false, .slice none 0 0] rfl ?_; intro w2 hq2 hm2; have hm2' := ((Mod.refl none_ w1).alloc (.cells #[.int .i64 0, .int .i64 0, .int .i64 0, .int .i64 0, .int .i64 0, .int .i64 0, .int .i64 0, .int .i64 0, .int .i64 0, .int .i64 0, .int .i64 0, .string ⟨#[]⟩, .string ⟨#[]⟩, .int .i64 0, .slice none 0 0, .int .i64 0, .int .i64 0, .string ⟨#[]⟩, .bool false, .slice none 0 0] 40)).in_new (Nat.le_refl _) hm2; have hM2 := Lib.hid (hm1.out.trans hm2'); have hs2 := Lib.hid (hs1.out.mod0 hm2'); clear hm2 hm2' hq2)
    go_ret
    exact ⟨A, n, c, by rw [hB.out]; rfl, by rw [hL.out]; exact hs2.out, hn, hM2.out.any _, fun i hi => .inl hi⟩
set_option maxRecDepth 100000 in
theorem bagTwice_nil (w : World) (j : Nat) : Calls Try.prog 16 #[.pointer none, .int .i64 (j : Int)] w fun e w' => e = .returned (.bool false) ∧ Mod none_ w w' := by
  go_enter Try.func16, Try.ntmps16
  go_wp2_with fail
  refine (bagLook_nil w j).mono ?_
  rintro e w1 ⟨rfl, hm1⟩
  dsimp only
  have hq := Lib.hid (Blk.new w1 40 #[.int .i64 0, .int .i64 0, .int .i64 0, .int .i64 0, .int .i64 0, .int .i64 0, .int .i64 0, .int .i64 0, .int .i64 0, .int .i64 0, .int .i64 0, .string ⟨#[]⟩, .string ⟨#[]⟩, .int .i64 0, .slice none 0 0, .int .i64 0, .int .i64 0, .string ⟨#[]⟩, .bool false, .slice none 0 0])
  replace hm1 := Lib.hid hm1
  go_wp2_with (refine wpList_store_blk rfl 40 (.tmp 5) (.tmp 11) rfl w1.heap.size 0 _ rfl rfl hq.out (by simp) msg_size (by rfl) #[.int .i64 0, .int .i64 0, .int .i64 0, .int .i64 0, .int .i64 0, .int .i64 0, .int .i64 0, .int .i64 0, .int .i64 0, .int .i64 0, .int .i64 0, .string ⟨#[]⟩, .string ⟨#[]⟩, .int .i64 0, .slice none 0 0, .int .i64 0, .int .i64 0, .string ⟨#[]⟩, .bool false, .slice none 0 0] rfl ?_; intro w2 hq2 hm2; have hm2' := ((Mod.refl none_ w1).alloc (.cells #[.int .i64 0, .int .i64 0, .int .i64 0, .int .i64 0, .int .i64 0, .int .i64 0, .int .i64 0, .int .i64 0, .int .i64 0, .int .i64 0, .int .i64 0, .string ⟨#[]⟩, .string ⟨#[]⟩, .int .i64 0, .slice none 0 0, .int .i64 0, .int .i64 0, .string ⟨#[]⟩, .bool false, .slice none 0 0] 40)).in_new (Nat.le_refl _) hm2; have hM2 := Lib.hid (hm1.out.trans hm2'); clear hm2 hm2' hq2)
  go_ret
  exact ⟨rfl, hM2.out⟩
theorem intinfo : (Try.prog.info? 3).map (fun i => (i.zero, i.size, i.bytes)) = some (some (.int .i64 0), 1, 8) := by kernel_rfl
def OwN (w : World) (A : Option Addr) (n c : Nat) (l : List Int) : Prop := Ow w 3 1 A n c (ivs l)
theorem appN {w : World} {ops : Array Oper} {rest : List Oper} {o : Oper} {a : Act} {Q : Exit → Act → World → Prop} (hgd : o.guard = none) (s x : Operand)
    (ho : o.op = .call { callee := .builtin .append, args := #[s, x], argTypes := #[57, 57] })
    {A : Option Addr} {n c : Nat} {xs : List Int} (hs : a.eval s = .slice A n c) (hown : OwN w A n c xs)
    {S : Option Addr} {m d : Nat} {news : List Int} (hx : a.eval x = .slice S m d) (hr : RdI w S m news) (hb : (n + m) * 8 ≤ 140737488355328)
    (h : ∀ A' c' w', OwN w' A' (n + m) c' (xs ++ news) → Mod (fp A) w w' → (A' = A ∨ A' = some ⟨w.heap.size, 0, none⟩) → wpList Try.prog ops Q rest (a.put o.dst (.slice A' (n + m) c')) w') : wpList Try.prog ops Q (o :: rest) a w := by
  obtain ⟨i0, hi, hz0, hz1, hz2⟩ := info_parts intinfo
  refine wpList_append_ow hgd s x 57 ho 3 i0 _ 1 8 Try.underlying57 hi hz0 hz1 hz2 rfl (by omega) A n c (ivs xs) hs hown S m d (ivs news) hx hr (ivs_one _) (by omega) (by omega) ?_
  intro A' c' w' h1
  rw [← ivs_append] at h1
  exact h A' c' w' h1
/-- the places of the messages to a replica -/
def places (tr : Int) : Nat → List Ms → List Int
  | _, [] => []
  | i, x :: xs => if x.m.to = tr then (i : Int) :: places tr (i + 1) xs else places tr (i + 1) xs
theorem places_snoc (tr : Int) (x : Ms) : ∀ (xs : List Ms) (i : Nat), places tr i (xs ++ [x]) = places tr i xs ++ if x.m.to = tr then [((i + xs.length : Nat) : Int)] else []
  | [], i => by simp [places]
  | y :: ys, i => by
    have := places_snoc tr x ys (i + 1)
    simp only [List.cons_append, places]
    rw [this]
    have e : i + 1 + ys.length = i + (y :: ys).length := by simp; omega
    rw [e]
    split <;> simp
theorem places_len (tr : Int) : ∀ (xs : List Ms) (i : Nat), (places tr i xs).length ≤ xs.length
  | [], i => by simp [places]
  | y :: ys, i => by
    have := places_len tr ys (i + 1)
    simp only [places]
    split <;> simp <;> omega
set_option maxRecDepth 100000 in
set_option maxHeartbeats 4000000 in
theorem bagFor_ok (w : World) (p : Nat) (A : Option Addr) (n c : Nat) (xs : List Ms) (h : BagSt w p A n c xs) (hn : n ≤ 400) (tr : Int) :
    Calls Try.prog 20 #[.pointer (some ⟨p, 0, none⟩), .int .i64 tr] w fun e w' =>
      ∃ A' m' c', e = .returned (.slice A' m' c') ∧ OwN w' A' m' c' (places tr 0 xs) ∧ Fresh w A' ∧ Mod none_ w w' := by
  have kA := Lib.hid (bagAll_ok w p A n c xs h (by omega))
  have hl := Lib.hid h.len
  clear h
  go_enter Try.func20, Try.ntmps20
  go_wp2_with fail
  with_reducible refine kA.out.mono ?_
  rintro e w1 ⟨A1, c1, rfl, ho1, hf1, hm1⟩
  dsimp only
  replace ho1 := Lib.hid ho1
  replace hf1 := Lib.hid hf1
  replace hm1 := Lib.hid hm1
  go_wp2_with fail
  go_loopw [5, 11] (fun v x wr => ∃ j : Nat, x = .int .i64 j ∧ j ≤ n ∧ ∃ B m d, v = .slice B m d ∧ m ≤ j ∧ OwN wr B m d (places tr 0 (xs.take j)) ∧ Fresh w1 B ∧ Mod none_ w1 wr) (fun _ x _ => n - (intOf x).toNat)
  case atStart => exact ⟨0, rfl, by omega, none, 0, 0, rfl, by omega, Ow.nil _ _ _, (fun a ha => by cases ha), Mod.refl _ _⟩
  case round =>
    obtain ⟨j, rfl, hj, B, m, d, rfl, hmj, ho, hf, hm⟩ := hrel
    by_cases hlt : j < n
    · obtain ⟨b, o, x, hA, hxm, hx, hrg⟩ := rdm_get (w := wr) (Rd.mod0 (Ow.rd ho1.out) hm) hlt
      subst hA
      unfold msC at hrg
      have hb0 := Lib.hid (Blk.new wr 40 #[.int .i64 0, .int .i64 0, .int .i64 0, .int .i64 0, .int .i64 0, .int .i64 0, .int .i64 0, .int .i64 0, .int .i64 0, .int .i64 0, .int .i64 0, .string ⟨#[]⟩, .string ⟨#[]⟩, .int .i64 0, .slice none 0 0, .int .i64 0, .int .i64 0, .string ⟨#[]⟩, .bool false, .slice none 0 0])
      have hpl := places_snoc tr x (xs.take j) 0
      have htk : xs.take (j + 1) = xs.take j ++ [x] := by rw [List.take_add_one, hx]; rfl
      have hlj : (xs.take j).length = j := by rw [List.length_take, hl.out]; omega
      rw [← htk, hlj, Nat.zero_add] at hpl
      clear hlj htk
      replace ho := Lib.hid ho
      replace hf := Lib.hid hf
      replace hm := Lib.hid hm
      replace hxm := Lib.hid hxm
      replace hx := Lib.hid hx
      replace hrg := Lib.hid hrg
      by_cases hto : x.m.to = tr
      · rw [if_pos hto] at hpl
        have hpl2 := Lib.hid hpl
        clear hpl
        subst hto
        go_wp2_with (first
          | (refine wpList_load_mid rfl 40 (.tmp 14) rfl b (o + j * 20) rfl _ _ hrg.out Try.underlying40 rfl msg_size ?_)
          | (refine wpList_store_blk rfl 40 (.tmp 7) (.tmp 15) rfl wr.heap.size 0 _ rfl rfl hb0.out (by simp) msg_size (by rfl) #[.int .i64 x.m.frm, .int .i64 x.m.to, .int .i64 x.m.kind, .int .i64 x.m.r.i.r, .int .i64 x.m.r.i.n, .int .i64 x.m.r.bal, .int .i64 x.m.r.st, .int .i64 x.m.r.by_, .int .i64 x.m.r.e.o.c, .int .i64 x.m.r.e.o.s, .int .i64 x.m.r.e.o.k, .string (txt x.m.r.e.o.acct), .string (txt x.m.r.e.o.peer), .int .i64 x.m.r.e.o.sum, .slice x.L.a x.L.n x.L.c, .int .i64 x.m.r.e.o.per, .int .i64 x.m.r.e.o.hold, .string (txt x.m.r.e.o.note), .bool x.m.r.e.none, .slice x.D.a x.D.n x.D.c] rfl ?_; intro w2 hb2 hm2; have hm2' := ((Mod.refl none_ wr).alloc (.cells #[.int .i64 0, .int .i64 0, .int .i64 0, .int .i64 0, .int .i64 0, .int .i64 0, .int .i64 0, .int .i64 0, .int .i64 0, .int .i64 0, .int .i64 0, .string ⟨#[]⟩, .string ⟨#[]⟩, .int .i64 0, .slice none 0 0, .int .i64 0, .int .i64 0, .string ⟨#[]⟩, .bool false, .slice none 0 0] 40)).in_new (Nat.le_refl _) hm2; have hM2 := Lib.hid (hm.out.trans (hm2'.alloc (.cells #[.int .i64 (j : Int)] 3))); have ho2 := Lib.hid (ho.out.mod0 (hm2'.alloc (.cells #[.int .i64 (j : Int)] 3))); have c2 : w2.cell? ⟨wr.heap.size, 1, none⟩ = some (.int .i64 x.m.to) := hb2.cell_ rfl; clear hm2 hm2' hb2)
          | (at_builtin; go_loud (refine appN rfl (.tmp 20) (.tmp 22) rfl rfl ho2.out rfl (rdi_one w2 3 (j : Int)) (by omega) ?_; intro A3 c3 w3 ho3 hm3 hA3; replace ho3 := Lib.hid ho3; replace hm3 := Lib.hid hm3; replace hA3 := Lib.hid hA3)))
        go_roundw
        case rel => exact ⟨j + 1, by go_num, by omega, A3, m + 1, c3, rfl, by omega, by rw [hpl2.out]; exact ho3.out, Fresh.app hf.out hM2.out.size hA3.out, hM2.out.app hf.out hm3.out⟩
        case measure => simp [intOf]; omega
      · rw [if_neg hto, List.append_nil] at hpl
        have hpl2 := Lib.hid hpl
        clear hpl
        go_wp2_with (first
          | (refine wpList_load_mid rfl 40 (.tmp 14) rfl b (o + j * 20) rfl _ _ hrg.out Try.underlying40 rfl msg_size ?_)
          | (refine wpList_store_blk rfl 40 (.tmp 7) (.tmp 15) rfl wr.heap.size 0 _ rfl rfl hb0.out (by simp) msg_size (by rfl) #[.int .i64 x.m.frm, .int .i64 x.m.to, .int .i64 x.m.kind, .int .i64 x.m.r.i.r, .int .i64 x.m.r.i.n, .int .i64 x.m.r.bal, .int .i64 x.m.r.st, .int .i64 x.m.r.by_, .int .i64 x.m.r.e.o.c, .int .i64 x.m.r.e.o.s, .int .i64 x.m.r.e.o.k, .string (txt x.m.r.e.o.acct), .string (txt x.m.r.e.o.peer), .int .i64 x.m.r.e.o.sum, .slice x.L.a x.L.n x.L.c, .int .i64 x.m.r.e.o.per, .int .i64 x.m.r.e.o.hold, .string (txt x.m.r.e.o.note), .bool x.m.r.e.none, .slice x.D.a x.D.n x.D.c] rfl ?_; intro w2 hb2 hm2; have hm2' := ((Mod.refl none_ wr).alloc (.cells #[.int .i64 0, .int .i64 0, .int .i64 0, .int .i64 0, .int .i64 0, .int .i64 0, .int .i64 0, .int .i64 0, .int .i64 0, .int .i64 0, .int .i64 0, .string ⟨#[]⟩, .string ⟨#[]⟩, .int .i64 0, .slice none 0 0, .int .i64 0, .int .i64 0, .string ⟨#[]⟩, .bool false, .slice none 0 0] 40)).in_new (Nat.le_refl _) hm2; have hM2 := Lib.hid (hm.out.trans hm2'); have ho2 := Lib.hid (ho.out.mod0 hm2'); have c2 : w2.cell? ⟨wr.heap.size, 1, none⟩ = some (.int .i64 x.m.to) := hb2.cell_ rfl; clear hm2 hm2' hb2))
        go_roundw
        case rel => exact ⟨j + 1, by go_num, by omega, B, m, d, rfl, by omega, by rw [hpl2.out]; exact ho2.out, hf.out, hM2.out⟩
        case measure => simp [intOf]; omega
    · obtain rfl : j = n := by omega
      rw [List.take_of_length_le (by rw [hl.out]; exact Nat.le_refl _)] at ho
      replace ho := Lib.hid ho
      replace hf := Lib.hid hf
      replace hm := Lib.hid hm
      go_wp2_with fail
      go_ret
      exact ⟨B, m, d, rfl, ho.out, hf.out.later hm1.out.size, hm1.out.trans hm.out⟩
set_option maxRecDepth 100000 in
theorem bagFor_nil (w : World) (tr : Int) : Calls Try.prog 20 #[.pointer none, .int .i64 tr] w fun e w' => e = .returned (.slice none 0 0) ∧ w = w' := by
  go_enter Try.func20, Try.ntmps20
  go_wp2_with fail
  refine (bagAll_nil w).mono ?_
  rintro e w1 ⟨rfl, rfl⟩
  go_wp2_with fail
  go_loop [5, 11] (fun v x => v = .slice none 0 0 ∧ x = .int .i64 0) (fun _ _ => 0)
  case atStart => exact ⟨rfl, rfl⟩
  case round =>
    obtain ⟨rfl, rfl⟩ := hrel
    go_wp2_with fail
    go_ret
    exact ⟨rfl, rfl⟩
end Go.Proofs.Ytdekehhmjehicaa
/-
  post.Same.
-/
namespace Go.Proofs.Ytdekehhmjehicaa
set_option linter.unusedVariables false
set_option linter.unusedSimpArgs false
open Go.RowKit
set_option maxRecDepth 100000 in
set_option maxHeartbeats 8000000 in
theorem sameM_ok (w : World) (a b : Mg) (L D M E : SV) (ha : EnM w a.r.e L D) (hb : EnM w b.r.e M E) (hL : L.n ≤ 140737488355328) (hD : D.n ≤ 140737488355328) (hM : M.n ≤ 140737488355328) (hE : E.n ≤ 140737488355328) :
    Calls Try.prog 10 #[.agg #[.int .i64 a.frm, .int .i64 a.to, .int .i64 a.kind, .int .i64 a.r.i.r, .int .i64 a.r.i.n, .int .i64 a.r.bal, .int .i64 a.r.st, .int .i64 a.r.by_, .int .i64 a.r.e.o.c, .int .i64 a.r.e.o.s, .int .i64 a.r.e.o.k, .string (txt a.r.e.o.acct), .string (txt a.r.e.o.peer), .int .i64 a.r.e.o.sum, .slice L.a L.n L.c, .int .i64 a.r.e.o.per, .int .i64 a.r.e.o.hold, .string (txt a.r.e.o.note), .bool a.r.e.none, .slice D.a D.n D.c], .agg #[.int .i64 b.frm, .int .i64 b.to, .int .i64 b.kind, .int .i64 b.r.i.r, .int .i64 b.r.i.n, .int .i64 b.r.bal, .int .i64 b.r.st, .int .i64 b.r.by_, .int .i64 b.r.e.o.c, .int .i64 b.r.e.o.s, .int .i64 b.r.e.o.k, .string (txt b.r.e.o.acct), .string (txt b.r.e.o.peer), .int .i64 b.r.e.o.sum, .slice M.a M.n M.c, .int .i64 b.r.e.o.per, .int .i64 b.r.e.o.hold, .string (txt b.r.e.o.note), .bool b.r.e.none, .slice E.a E.n E.c]] w fun e w' => e = .returned (.bool (decide (a = b))) ∧ Mod none_ w w' := by
  have kE := Lib.hid (fun W (h : Mod none_ w W) => sameE_ok W a.r.e b.r.e L D M E (ha.mod0 h) (hb.mod0 h) hL hD hM hE)
  have hei := fun W => eql_is W a.r.i b.r.i
  unfold isV at hei
  replace ha := Lib.hid ha
  replace hb := Lib.hid hb
  obtain ⟨af, at_, ak, ⟨⟨ar, an⟩, ab, as_, ay, ae⟩⟩ := a
  obtain ⟨bf, bt, bk, ⟨⟨br, bn⟩, bb, bs, by_, be⟩⟩ := b
  dsimp only at kE hei ⊢
  go_enter Try.func10, Try.ntmps10
  go_wp2_with fail
  · with_reducible refine (kE.out _ (((Mod.refl none_ w).alloc _).alloc _)).mono ?_
    rintro e w1 ⟨rfl, hm1⟩
    dsimp only
    have hm : Mod none_ w w1 := (((Mod.refl none_ w).alloc _).alloc _).trans hm1
    clear hm1
    replace hm := Lib.hid hm
    go_wp2_with fail
    go_ret
    refine ⟨?_, hm.out⟩
    simp_all
  all_goals
    go_ret
    refine ⟨by simp_all, ((Mod.refl none_ w).alloc _).alloc _⟩
end Go.Proofs.Ytdekehhmjehicaa
