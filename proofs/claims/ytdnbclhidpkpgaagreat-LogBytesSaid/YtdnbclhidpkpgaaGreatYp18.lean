import Derived.Test.YtdnbclhidpkpgaaGreatYp17
import Derived.Deep.LoopGhost
import Derived.BigQuiet
/-
  The reference's log.Last. No condition.
-/
namespace Go.Proofs.YtdnbclhidpkpgaaGreat
set_option linter.unusedVariables false
set_option linter.unusedSimpArgs false
open Go.RowKit
set_option maxRecDepth 100000 in
set_option maxHeartbeats 8000000 in
theorem r15last_ok (w : World) (A : Option Addr) (n c : Nat) (xs : List Rs) (h : RdR w A n xs) (hn : n ≤ 1000) :
    Calls Tryz.prog 27 #[.slice A n c] w (LsPost w xs) := by
  have hl := h.len
  replace h := Lib.hid h
  replace hl := Lib.hid hl
  go_enter Tryz.func27, Tryz.ntmps27
  go_wp2_with fail
  go_loopg [3, 4] n (fun gk v y wr => ∃ (j m d : Nat) (B : Option Addr) (ys : List Rs), y = .int .i64 (j : Int) ∧ j + gk = n ∧ v = .slice B m d ∧ m ≤ j ∧ LastOf (xs.take j) ys ∧ OwR wr B m d ys ∧ Fresh w B ∧ Mod none_ w wr)
  case atStart => exact ⟨0, 0, 0, none, [], rfl, by omega, rfl, by omega, by simpa using LastOf.nil, Ow.nil _ _ _, (fun a ha => by cases ha), Mod.refl _ _⟩
  case round =>
    obtain ⟨j, m, d, B, ys, rfl, hj, rfl, hmj, hla, ho, hf, hm⟩ := hrel
    by_cases hlt : j < n
    case neg =>
      obtain rfl : j = n := by omega
      rw [List.take_of_length_le (by rw [hl.out]; exact Nat.le_refl _)] at hla
      replace hla := Lib.hid hla
      replace ho := Lib.hid ho
      replace hf := Lib.hid hf
      replace hm := Lib.hid hm
      go_wp2_with fail
      go_ret
      exact ⟨B, m, d, ys, rfl, hla.out, ho.out, hf.out, hm.out⟩
    case pos =>
      obtain ⟨b, o, x, hA, hxm, hx, hrg⟩ := rdr_get (w := w) h.out hlt
      have hyl := ho.len
      obtain ⟨wo, hwo⟩ : ∃ wo, wo = wr := ⟨_, rfl⟩
      obtain ⟨gk0, hgk⟩ : ∃ gk0, gk0 = gk := ⟨_, rfl⟩
      rw [← hwo] at ho hm
      rw [← hgk] at hj
      have ht1 : xs.take (j + 1) = xs.take j ++ [x] := by rw [List.take_add_one, hx] <;> rfl
      have hj1 : (0 : Int) ≤ (j : Int) := by omega
      have hj2 : (j : Int) < (n : Int) := by omega
      have hj4 : j < 1000 := by omega
      have hbo : ∀ W, Mod none_ w W → W.rangeAt b (o + j * 17) [.int .i64 x.r.i.r, .int .i64 x.r.i.n, .int .i64 x.r.bal, .int .i64 x.r.st, .int .i64 x.r.by_, .int .i64 x.r.e.o.c, .int .i64 x.r.e.o.s, .int .i64 x.r.e.o.k, .string (txt x.r.e.o.acct), .string (txt x.r.e.o.peer), .int .i64 x.r.e.o.sum, .slice x.L.a x.L.n x.L.c, .int .i64 x.r.e.o.per, .int .i64 x.r.e.o.hold, .string (txt x.r.e.o.note), .bool x.r.e.none, .slice x.D.a x.D.n x.D.c] := fun W hW k v hv => hW.cell_some (hrg k v hv) (fun h => h)
      subst hA
      have hmd : m ≤ d := ho.2.1
      replace hla := Lib.hid hla
      replace ho := Lib.hid ho
      replace hf := Lib.hid hf
      replace hm := Lib.hid hm
      replace hwo := Lib.hid hwo
      replace hxm := Lib.hid hxm
      replace hx := Lib.hid hx
      replace hbo := Lib.hid hbo
      replace ht1 := Lib.hid ht1
      replace hyl := Lib.hid hyl
      replace hgk := Lib.hid hgk
      clear hrg hlt
      go_upto_region 6 with fail
      go_loopw [5] (fun y wr => ∃ k : Nat, y = .int .i64 (k : Int) ∧ k ≤ m ∧ (∀ z ∈ ys.drop k, isLt x.r.i z.r.i = true) ∧ Mod none_ wo wr) (fun y _ => (intOf y).toNat)
      case atStart => exact ⟨m, rfl, Nat.le_refl _, (fun z hz => by rw [List.drop_of_length_le (by rw [hyl.out]; exact Nat.le_refl _)] at hz; cases hz), by rw [hwo.out]; exact Mod.refl _ _⟩
      case round =>
        obtain ⟨k, rfl, hk, hbe, hmi⟩ := hrel
        by_cases hk0 : k = 0
        · -- nothing stands ahead
          have d1 : decide ((k : Int) > 0) = false := decide_eq_false (by omega)
          have d2 : decide (0 < k) = false := decide_eq_false (by omega)
          have d3 : decide ((0 : Int) < (k : Int)) = false := decide_eq_false (by omega)
          have hah : Hid (∀ z ∈ ys.take k, isLt z.r.i x.r.i = true) := Lib.hid (by rw [hk0]; intro z hz; cases hz)
          replace hk0 := Lib.hid hk0
          have hM0 := Lib.hid hmi
          have ka := Lib.hid (fun s : Cls (Mod none_ wo) => (r14ahead_ok s.W x.r.i x.r.i).mono (fun e w' (h : _ ∧ _) => (⟨h.1, s.ok.trans h.2⟩ : _ ∧ Mod none_ wo w')))
          replace hbe := Lib.hid hbe
          clear hmi
          have hne : Nonempty (Cls (Mod none_ wo)) := ⟨⟨wo, Mod.refl _ _⟩⟩
          go_upto_region 6 with fail
          refine wp_region_cls (Mod none_ wo) (by kernel_rfl) (by kernel_rfl) (hM0.out.drew) ?_
          try simp only [List.append_eq, List.cons_append, List.nil_append]
          repeat (go_big_quiet_step ((go_at_call 65; exact cls_of (ka.out _))))
          refine wpQuiet_nil ?_
          rintro wv ⟨⟨wz, hM8⟩, hz⟩
          have hM9 : Mod none_ wo wv := by rw [hz]; exact hM8
          clear hz hM8
          have hM1 := Lib.hid hM9
          clear ka hM9 hM0
          go_upto_region 8 with fail
          refine wp_region_cls (Mod none_ wo) (by kernel_rfl) (by kernel_rfl) (hM1.out.drew) ?_
          try simp only [List.append_eq, List.cons_append, List.nil_append]
          repeat (go_big_quiet_step (fail))
          refine wpQuiet_nil ?_
          rintro wv ⟨⟨wz, hM8⟩, hz⟩
          have hM9 : Mod none_ wo wv := by rw [hz]; exact hM8
          clear hz hM8
          have hM2 := Lib.hid hM9
          clear hM9 hM1
          clear d1 d2 d3
          have hmv := Lib.hid (hm.out.trans hM2.out)
          have howv := ho.out.mod0 hM2.out
          have hins : Hid (LastOf (xs.take (j + 1)) ((([] ++ ys.take k) ++ [x]) ++ ys.drop k)) := Lib.hid (by rw [ht1.out]; exact hla.out.ins k hah.out hbe.out)
          have hk2 : k ≤ d := by omega
          have hkm1 : (0 : Int) ≤ (k : Int) := by omega
          have hkm2 : (k : Int) ≤ (m : Int) := by omega
          have hkm3 : (k : Int) ≤ (d : Int) := by omega
          have hkm4 : (m : Int) ≤ (d : Int) := by omega
          have zt0 := rdR_take (w := wv) howv.rd hk
          have zd0 := rdR_drop (w := wv) (c := d) howv.rd hk hmd
          have hxr : Hid (∀ W, Mod none_ wv W → W.rangeAt b (o + j * 17) [.int .i64 x.r.i.r, .int .i64 x.r.i.n, .int .i64 x.r.bal, .int .i64 x.r.st, .int .i64 x.r.by_, .int .i64 x.r.e.o.c, .int .i64 x.r.e.o.s, .int .i64 x.r.e.o.k, .string (txt x.r.e.o.acct), .string (txt x.r.e.o.peer), .int .i64 x.r.e.o.sum, .slice x.L.a x.L.n x.L.c, .int .i64 x.r.e.o.per, .int .i64 x.r.e.o.hold, .string (txt x.r.e.o.note), .bool x.r.e.none, .slice x.D.a x.D.n x.D.c]) := Lib.hid (fun W hW => hbo.out W (hmv.out.trans hW))
          have hM0 := Lib.hid ((Mod.refl none_ wv).drew)
          rcases howv.2.2.2 with ⟨rfl, rfl, rfl⟩ | ⟨g, cur, rfl, hg1, hg2, hg3⟩
          · obtain rfl : k = 0 := by omega
            have zt : Hid (RdR wv none 0 (ys.take 0)) := Lib.hid zt0
            have zd : Hid (∀ S mm, S = (none : Option Addr) → mm = 0 → RdR wv S mm (ys.drop 0)) := Lib.hid (fun S mm e1 e2 => by
              rw [if_pos rfl] at zd0
              rw [e1, e2]; exact zd0)
            clear zt0 zd0 howv
            go_upto_region 10 with fail
            refine wp_region_held_drew (S := fun W => Mod none_ wv W) (by kernel_rfl) hM0.out (fun hHeld => ?_)
            refine wpAnyH_take (i := 0) (v := ?_) rfl (by kernel_rfl) (by kernel_rfl) (by kernel_rfl) (fun _ _ _ h => h) (Or.inl ⟨by rfl, ?_⟩) (by assumption) ?_
            rotate_left
            · intro W hSw; (try dsimp only at hSw); go_simp; (try with_reducible rfl)
            try simp only [Act.put, List.getElem_toArray, List.getElem_cons_zero, List.getElem_cons_succ, List.setIfInBounds_toArray, List.set_cons_zero, List.set_cons_succ]
            refine wpAnyH_take (i := 1) (v := ?_) rfl (by kernel_rfl) (by kernel_rfl) (by kernel_rfl) (fun _ _ _ h => h) (Or.inl ⟨by rfl, ?_⟩) (by assumption) ?_
            rotate_left
            · intro W hSw; (try dsimp only at hSw); go_simp; (try with_reducible rfl)
            try simp only [Act.put, List.getElem_toArray, List.getElem_cons_zero, List.getElem_cons_succ, List.setIfInBounds_toArray, List.set_cons_zero, List.set_cons_succ]
            refine wpAnyH_take (i := 2) (v := ?_) rfl (by kernel_rfl) (by kernel_rfl) (by kernel_rfl) (fun _ _ _ h => h) (Or.inl ⟨by rfl, ?_⟩) (by assumption) ?_
            rotate_left
            · intro W hSw; (try dsimp only at hSw); go_simp; (try with_reducible rfl)
            try simp only [Act.put, List.getElem_toArray, List.getElem_cons_zero, List.getElem_cons_succ, List.setIfInBounds_toArray, List.set_cons_zero, List.set_cons_succ]
            refine wpAnyH_take (i := 4) (v := ?_) rfl (by kernel_rfl) (by kernel_rfl) (by kernel_rfl) (fun _ _ _ h => h) (Or.inl ⟨by rfl, ?_⟩) (by assumption) ?_
            rotate_left
            · intro W hSw; (try dsimp only at hSw); go_simp; (try with_reducible rfl)
            try simp only [Act.put, List.getElem_toArray, List.getElem_cons_zero, List.getElem_cons_succ, List.setIfInBounds_toArray, List.set_cons_zero, List.set_cons_succ]
            refine wpAnyH_take (i := 5) (v := ?_) rfl (by kernel_rfl) (by kernel_rfl) (by kernel_rfl) (fun _ _ _ h => h) (Or.inl ⟨by rfl, ?_⟩) (by assumption) ?_
            rotate_left
            · intro W hSw; (try dsimp only at hSw); go_simp; (try with_reducible rfl)
            try simp only [Act.put, List.getElem_toArray, List.getElem_cons_zero, List.getElem_cons_succ, List.setIfInBounds_toArray, List.set_cons_zero, List.set_cons_succ]
            refine wpAnyH_take (i := 6) (v := ?_) rfl (by kernel_rfl) (by kernel_rfl) (by kernel_rfl) (fun _ _ _ h => h) (Or.inl ⟨by rfl, ?_⟩) (by assumption) ?_
            rotate_left
            · intro W hSw; (try dsimp only at hSw); go_simp; (try with_reducible rfl)
            try simp only [Act.put, List.getElem_toArray, List.getElem_cons_zero, List.getElem_cons_succ, List.setIfInBounds_toArray, List.set_cons_zero, List.set_cons_succ]
            refine wpAnyH_take (i := 7) rfl (by kernel_rfl) (by kernel_rfl) (by kernel_rfl) (fun _ _ _ h => h) (yieldsIf_load_mid (by rfl) 37 (.tmp 62) rfl b (o + j * 17) rfl [.int .i64 x.r.i.r, .int .i64 x.r.i.n, .int .i64 x.r.bal, .int .i64 x.r.st, .int .i64 x.r.by_, .int .i64 x.r.e.o.c, .int .i64 x.r.e.o.s, .int .i64 x.r.e.o.k, .string (txt x.r.e.o.acct), .string (txt x.r.e.o.peer), .int .i64 x.r.e.o.sum, .slice x.L.a x.L.n x.L.c, .int .i64 x.r.e.o.per, .int .i64 x.r.e.o.hold, .string (txt x.r.e.o.note), .bool x.r.e.none, .slice x.D.a x.D.n x.D.c] _ (fun W hW => hxr.out W hW) Tryz.underlying37 rfl rc_size) (by assumption) ?_
            try simp only [Act.put, List.getElem_toArray, List.getElem_cons_zero, List.getElem_cons_succ, List.setIfInBounds_toArray, List.set_cons_zero, List.set_cons_succ]
            refine wpAnyH_take (i := 10) (v := ?_) rfl (by kernel_rfl) (by kernel_rfl) (by kernel_rfl) (fun _ _ _ h => h) (Or.inl ⟨by rfl, ?_⟩) (by assumption) ?_
            rotate_left
            · intro W hSw; (try dsimp only at hSw); go_simp; (try with_reducible rfl)
            try simp only [Act.put, List.getElem_toArray, List.getElem_cons_zero, List.getElem_cons_succ, List.setIfInBounds_toArray, List.set_cons_zero, List.set_cons_succ]
            refine wpAnyH_take (i := 11) (v := ?_) rfl (by kernel_rfl) (by kernel_rfl) (by kernel_rfl) (fun _ _ _ h => h) (Or.inl ⟨by rfl, ?_⟩) (by assumption) ?_
            rotate_left
            · intro W hSw; (try dsimp only at hSw); go_simp; (try with_reducible rfl)
            try simp only [Act.put, List.getElem_toArray, List.getElem_cons_zero, List.getElem_cons_succ, List.setIfInBounds_toArray, List.set_cons_zero, List.set_cons_succ]
            refine wpAnyH_take (i := 12) (v := ?_) rfl (by kernel_rfl) (by kernel_rfl) (by kernel_rfl) (fun _ _ _ h => h) (Or.inl ⟨by rfl, ?_⟩) (by assumption) ?_
            rotate_left
            · intro W hSw; (try dsimp only at hSw); go_simp; (try with_reducible rfl)
            try simp only [Act.put, List.getElem_toArray, List.getElem_cons_zero, List.getElem_cons_succ, List.setIfInBounds_toArray, List.set_cons_zero, List.set_cons_succ]
            refine wpAnyH_ready (rs := [3, 8]) (by kernel_rfl) (by simp) ?_
            refine (AllReadyH.cons rfl (fun K hK => ?_) (AllReadyH.cons rfl (fun K hK => ?_) AllReadyH.nil))
            · refine step_accR rfl (.const (.slice none 0 0)) (.tmp 58) rfl hM0.out rfl (AccR.nil _ _) rfl (Rd.mod0 zt.out hM0.out) (by omega) ?_
              intro A3 n3 c3 w3 z3 hM3 _
              replace z3 := Lib.hid z3
              replace hM3 := Lib.hid hM3
              refine hK.out _ _ (hM3.out) (fun hHeld => ?_)
              clear hK K
              try simp only [Act.put, List.getElem_toArray, List.getElem_cons_zero, List.getElem_cons_succ, List.setIfInBounds_toArray, List.set_cons_zero, List.set_cons_succ]
              refine wpAnyH_ready (rs := [8]) (by kernel_rfl) (by simp) ?_
              refine AllReadyH.cons rfl (fun K hK => ?_) AllReadyH.nil
              go_simp
              have hM4 := Lib.hid (hM3.out.alloc (.cells #[.int .i64 x.r.i.r, .int .i64 x.r.i.n, .int .i64 x.r.bal, .int .i64 x.r.st, .int .i64 x.r.by_, .int .i64 x.r.e.o.c, .int .i64 x.r.e.o.s, .int .i64 x.r.e.o.k, .string (txt x.r.e.o.acct), .string (txt x.r.e.o.peer), .int .i64 x.r.e.o.sum, .slice x.L.a x.L.n x.L.c, .int .i64 x.r.e.o.per, .int .i64 x.r.e.o.hold, .string (txt x.r.e.o.note), .bool x.r.e.none, .slice x.D.a x.D.n x.D.c] 37))
              have z4 := Lib.hid (z3.out.mod0 ((Mod.refl none_ w3).alloc (.cells #[.int .i64 x.r.i.r, .int .i64 x.r.i.n, .int .i64 x.r.bal, .int .i64 x.r.st, .int .i64 x.r.by_, .int .i64 x.r.e.o.c, .int .i64 x.r.e.o.s, .int .i64 x.r.e.o.k, .string (txt x.r.e.o.acct), .string (txt x.r.e.o.peer), .int .i64 x.r.e.o.sum, .slice x.L.a x.L.n x.L.c, .int .i64 x.r.e.o.per, .int .i64 x.r.e.o.hold, .string (txt x.r.e.o.note), .bool x.r.e.none, .slice x.D.a x.D.n x.D.c] 37)))
              have z5 := Lib.hid (rdR_one w3 x)
              clear z3
              refine hK.out _ _ (hM4.out) (fun hHeld => ?_)
              clear hK K
              try simp only [Act.put, List.getElem_toArray, List.getElem_cons_zero, List.getElem_cons_succ, List.setIfInBounds_toArray, List.set_cons_zero, List.set_cons_succ]
              refine wpAnyH_ready (rs := [9]) (by kernel_rfl) (by simp) ?_
              refine AllReadyH.cons rfl (fun K hK => ?_) AllReadyH.nil
              refine step_accR rfl (.tmp 59) (.tmp 64) rfl hM4.out rfl z4.out rfl z5.out (by omega) ?_
              intro A6 n6 c6 w6 z6 hM6 _
              replace z6 := Lib.hid z6
              replace hM6 := Lib.hid hM6
              clear z4 z5
              refine hK.out _ _ (hM6.out) (fun hHeld => ?_)
              clear hK K
              try simp only [Act.put, List.getElem_toArray, List.getElem_cons_zero, List.getElem_cons_succ, List.setIfInBounds_toArray, List.set_cons_zero, List.set_cons_succ]
              refine wpAnyH_ready (rs := [13]) (by kernel_rfl) (by simp) ?_
              refine AllReadyH.cons rfl (fun K hK => ?_) AllReadyH.nil
              refine step_accR rfl (.tmp 65) (.tmp 68) rfl hM6.out rfl z6.out rfl (Rd.mod0 (zd.out _ _ (by first | rfl | simp) (by omega)) hM6.out) (by omega) ?_
              intro A7 n7 c7 w7 z7 hM7 _
              replace z7 := Lib.hid z7
              replace hM7 := Lib.hid hM7
              clear z6
              refine hK.out _ _ (hM7.out) (fun hHeld => ?_)
              clear hK K
              try simp only [Act.put, List.getElem_toArray, List.getElem_cons_zero, List.getElem_cons_succ, List.setIfInBounds_toArray, List.set_cons_zero, List.set_cons_succ]
              refine wpAnyH_take (i := 14) (v := ?_) rfl (by kernel_rfl) (by kernel_rfl) (by kernel_rfl) (fun _ _ _ h => h) (Or.inl ⟨by rfl, ?_⟩) (by assumption) ?_
              rotate_left
              · intro W hSw; (try dsimp only at hSw); go_simp; (try with_reducible rfl)
              try simp only [Act.put, List.getElem_toArray, List.getElem_cons_zero, List.getElem_cons_succ, List.setIfInBounds_toArray, List.set_cons_zero, List.set_cons_succ]
              refine wpAnyH_done (by kernel_rfl) ?_ _
              clear hHeld
              go_wp2_with fail
              go_roundg (gk0 - 1)
              case measure => have := hgk.out; omega
              case rel => exact ⟨j + 1, n7, c7, A7, _, by go_num, by omega, rfl, by have := z7.out.le; omega, hins.out, z7.out.ow, z7.out.fr.later hmv.out.size, hmv.out.trans hM7.out⟩
            · go_simp
              have hMa := Lib.hid (hM0.out.alloc (.cells #[.int .i64 x.r.i.r, .int .i64 x.r.i.n, .int .i64 x.r.bal, .int .i64 x.r.st, .int .i64 x.r.by_, .int .i64 x.r.e.o.c, .int .i64 x.r.e.o.s, .int .i64 x.r.e.o.k, .string (txt x.r.e.o.acct), .string (txt x.r.e.o.peer), .int .i64 x.r.e.o.sum, .slice x.L.a x.L.n x.L.c, .int .i64 x.r.e.o.per, .int .i64 x.r.e.o.hold, .string (txt x.r.e.o.note), .bool x.r.e.none, .slice x.D.a x.D.n x.D.c] 37))
              have za := Lib.hid (rdR_one wv.drew x)
              refine hK.out _ _ (hMa.out) (fun hHeld => ?_)
              clear hK K
              try simp only [Act.put, List.getElem_toArray, List.getElem_cons_zero, List.getElem_cons_succ, List.setIfInBounds_toArray, List.set_cons_zero, List.set_cons_succ]
              refine wpAnyH_ready (rs := [3]) (by kernel_rfl) (by simp) ?_
              refine AllReadyH.cons rfl (fun K hK => ?_) AllReadyH.nil
              refine step_accR rfl (.const (.slice none 0 0)) (.tmp 58) rfl hMa.out rfl (AccR.nil _ _) rfl (Rd.mod0 zt.out hMa.out) (by omega) ?_
              intro A3 n3 c3 w3 z4 hM4 hm3
              have z5 := Lib.hid (Rd.mod0 za.out hm3.nil_own)
              replace z4 := Lib.hid z4
              replace hM4 := Lib.hid hM4
              clear hm3 za
              refine hK.out _ _ (hM4.out) (fun hHeld => ?_)
              clear hK K
              try simp only [Act.put, List.getElem_toArray, List.getElem_cons_zero, List.getElem_cons_succ, List.setIfInBounds_toArray, List.set_cons_zero, List.set_cons_succ]
              refine wpAnyH_ready (rs := [9]) (by kernel_rfl) (by simp) ?_
              refine AllReadyH.cons rfl (fun K hK => ?_) AllReadyH.nil
              refine step_accR rfl (.tmp 59) (.tmp 64) rfl hM4.out rfl z4.out rfl z5.out (by omega) ?_
              intro A6 n6 c6 w6 z6 hM6 _
              replace z6 := Lib.hid z6
              replace hM6 := Lib.hid hM6
              clear z4 z5
              refine hK.out _ _ (hM6.out) (fun hHeld => ?_)
              clear hK K
              try simp only [Act.put, List.getElem_toArray, List.getElem_cons_zero, List.getElem_cons_succ, List.setIfInBounds_toArray, List.set_cons_zero, List.set_cons_succ]
              refine wpAnyH_ready (rs := [13]) (by kernel_rfl) (by simp) ?_
              refine AllReadyH.cons rfl (fun K hK => ?_) AllReadyH.nil
              refine step_accR rfl (.tmp 65) (.tmp 68) rfl hM6.out rfl z6.out rfl (Rd.mod0 (zd.out _ _ (by first | rfl | simp) (by omega)) hM6.out) (by omega) ?_
              intro A7 n7 c7 w7 z7 hM7 _
              replace z7 := Lib.hid z7
              replace hM7 := Lib.hid hM7
              clear z6
              refine hK.out _ _ (hM7.out) (fun hHeld => ?_)
              clear hK K
              try simp only [Act.put, List.getElem_toArray, List.getElem_cons_zero, List.getElem_cons_succ, List.setIfInBounds_toArray, List.set_cons_zero, List.set_cons_succ]
              refine wpAnyH_take (i := 14) (v := ?_) rfl (by kernel_rfl) (by kernel_rfl) (by kernel_rfl) (fun _ _ _ h => h) (Or.inl ⟨by rfl, ?_⟩) (by assumption) ?_
              rotate_left
              · intro W hSw; (try dsimp only at hSw); go_simp; (try with_reducible rfl)
              try simp only [Act.put, List.getElem_toArray, List.getElem_cons_zero, List.getElem_cons_succ, List.setIfInBounds_toArray, List.set_cons_zero, List.set_cons_succ]
              refine wpAnyH_done (by kernel_rfl) ?_ _
              clear hHeld
              go_wp2_with fail
              go_roundg (gk0 - 1)
              case measure => have := hgk.out; omega
              case rel => exact ⟨j + 1, n7, c7, A7, _, by go_num, by omega, rfl, by have := z7.out.le; omega, hins.out, z7.out.ow, z7.out.fr.later hmv.out.size, hmv.out.trans hM7.out⟩
          · clear hg1 hg2 hg3 howv
            by_cases q0 : d = k
            · have q1 : k = d := q0.symm
              subst q1
              have q2 : k = m := by omega
              subst q2
              clear q0
              have zt := Lib.hid zt0
              have zd : Hid (∀ S mm, S = some (⟨g, 0, none⟩ : Addr) → mm = 0 → RdR wv S mm (ys.drop k)) := Lib.hid (fun S mm e1 e2 => by
                rw [if_pos rfl, Nat.sub_self] at zd0
                rw [e1, e2]; exact zd0)
              clear zt0 zd0
              go_upto_region 10 with fail
              refine wp_region_held_drew (S := fun W => Mod none_ wv W) (by kernel_rfl) hM0.out (fun hHeld => ?_)
              refine wpAnyH_take (i := 0) (v := ?_) rfl (by kernel_rfl) (by kernel_rfl) (by kernel_rfl) (fun _ _ _ h => h) (Or.inl ⟨by rfl, ?_⟩) (by assumption) ?_
              rotate_left
              · intro W hSw; (try dsimp only at hSw); go_simp; (try with_reducible rfl)
              try simp only [Act.put, List.getElem_toArray, List.getElem_cons_zero, List.getElem_cons_succ, List.setIfInBounds_toArray, List.set_cons_zero, List.set_cons_succ]
              refine wpAnyH_take (i := 1) (v := ?_) rfl (by kernel_rfl) (by kernel_rfl) (by kernel_rfl) (fun _ _ _ h => h) (Or.inl ⟨by rfl, ?_⟩) (by assumption) ?_
              rotate_left
              · intro W hSw; (try dsimp only at hSw); go_simp; (try with_reducible rfl)
              try simp only [Act.put, List.getElem_toArray, List.getElem_cons_zero, List.getElem_cons_succ, List.setIfInBounds_toArray, List.set_cons_zero, List.set_cons_succ]
              refine wpAnyH_take (i := 2) (v := ?_) rfl (by kernel_rfl) (by kernel_rfl) (by kernel_rfl) (fun _ _ _ h => h) (Or.inl ⟨by rfl, ?_⟩) (by assumption) ?_
              rotate_left
              · intro W hSw; (try dsimp only at hSw); go_simp; (try with_reducible rfl)
              try simp only [Act.put, List.getElem_toArray, List.getElem_cons_zero, List.getElem_cons_succ, List.setIfInBounds_toArray, List.set_cons_zero, List.set_cons_succ]
              refine wpAnyH_take (i := 4) (v := ?_) rfl (by kernel_rfl) (by kernel_rfl) (by kernel_rfl) (fun _ _ _ h => h) (Or.inl ⟨by rfl, ?_⟩) (by assumption) ?_
              rotate_left
              · intro W hSw; (try dsimp only at hSw); go_simp; (try with_reducible rfl)
              try simp only [Act.put, List.getElem_toArray, List.getElem_cons_zero, List.getElem_cons_succ, List.setIfInBounds_toArray, List.set_cons_zero, List.set_cons_succ]
              refine wpAnyH_take (i := 5) (v := ?_) rfl (by kernel_rfl) (by kernel_rfl) (by kernel_rfl) (fun _ _ _ h => h) (Or.inl ⟨by rfl, ?_⟩) (by assumption) ?_
              rotate_left
              · intro W hSw; (try dsimp only at hSw); go_simp; (try with_reducible rfl)
              try simp only [Act.put, List.getElem_toArray, List.getElem_cons_zero, List.getElem_cons_succ, List.setIfInBounds_toArray, List.set_cons_zero, List.set_cons_succ]
              refine wpAnyH_take (i := 6) (v := ?_) rfl (by kernel_rfl) (by kernel_rfl) (by kernel_rfl) (fun _ _ _ h => h) (Or.inl ⟨by rfl, ?_⟩) (by assumption) ?_
              rotate_left
              · intro W hSw; (try dsimp only at hSw); go_simp; (try with_reducible rfl)
              try simp only [Act.put, List.getElem_toArray, List.getElem_cons_zero, List.getElem_cons_succ, List.setIfInBounds_toArray, List.set_cons_zero, List.set_cons_succ]
              refine wpAnyH_take (i := 7) rfl (by kernel_rfl) (by kernel_rfl) (by kernel_rfl) (fun _ _ _ h => h) (yieldsIf_load_mid (by rfl) 37 (.tmp 62) rfl b (o + j * 17) rfl [.int .i64 x.r.i.r, .int .i64 x.r.i.n, .int .i64 x.r.bal, .int .i64 x.r.st, .int .i64 x.r.by_, .int .i64 x.r.e.o.c, .int .i64 x.r.e.o.s, .int .i64 x.r.e.o.k, .string (txt x.r.e.o.acct), .string (txt x.r.e.o.peer), .int .i64 x.r.e.o.sum, .slice x.L.a x.L.n x.L.c, .int .i64 x.r.e.o.per, .int .i64 x.r.e.o.hold, .string (txt x.r.e.o.note), .bool x.r.e.none, .slice x.D.a x.D.n x.D.c] _ (fun W hW => hxr.out W hW) Tryz.underlying37 rfl rc_size) (by assumption) ?_
              try simp only [Act.put, List.getElem_toArray, List.getElem_cons_zero, List.getElem_cons_succ, List.setIfInBounds_toArray, List.set_cons_zero, List.set_cons_succ]
              refine wpAnyH_take (i := 10) (v := ?_) rfl (by kernel_rfl) (by kernel_rfl) (by kernel_rfl) (fun _ _ _ h => h) (Or.inl ⟨by rfl, ?_⟩) (by assumption) ?_
              rotate_left
              · intro W hSw; (try dsimp only at hSw); go_simp; (try with_reducible rfl)
              try simp only [Act.put, List.getElem_toArray, List.getElem_cons_zero, List.getElem_cons_succ, List.setIfInBounds_toArray, List.set_cons_zero, List.set_cons_succ]
              refine wpAnyH_take (i := 11) (v := ?_) rfl (by kernel_rfl) (by kernel_rfl) (by kernel_rfl) (fun _ _ _ h => h) (Or.inl ⟨by rfl, ?_⟩) (by assumption) ?_
              rotate_left
              · intro W hSw; (try dsimp only at hSw); go_simp; (try with_reducible rfl)
              try simp only [Act.put, List.getElem_toArray, List.getElem_cons_zero, List.getElem_cons_succ, List.setIfInBounds_toArray, List.set_cons_zero, List.set_cons_succ]
              refine wpAnyH_take (i := 12) (v := ?_) rfl (by kernel_rfl) (by kernel_rfl) (by kernel_rfl) (fun _ _ _ h => h) (Or.inl ⟨by rfl, ?_⟩) (by assumption) ?_
              rotate_left
              · intro W hSw; (try dsimp only at hSw); go_simp; (try with_reducible rfl)
              try simp only [Act.put, List.getElem_toArray, List.getElem_cons_zero, List.getElem_cons_succ, List.setIfInBounds_toArray, List.set_cons_zero, List.set_cons_succ]
              refine wpAnyH_ready (rs := [3, 8]) (by kernel_rfl) (by simp) ?_
              refine (AllReadyH.cons rfl (fun K hK => ?_) (AllReadyH.cons rfl (fun K hK => ?_) AllReadyH.nil))
              · refine step_accR rfl (.const (.slice none 0 0)) (.tmp 58) rfl hM0.out rfl (AccR.nil _ _) rfl (Rd.mod0 zt.out hM0.out) (by omega) ?_
                intro A3 n3 c3 w3 z3 hM3 _
                replace z3 := Lib.hid z3
                replace hM3 := Lib.hid hM3
                refine hK.out _ _ (hM3.out) (fun hHeld => ?_)
                clear hK K
                try simp only [Act.put, List.getElem_toArray, List.getElem_cons_zero, List.getElem_cons_succ, List.setIfInBounds_toArray, List.set_cons_zero, List.set_cons_succ]
                refine wpAnyH_ready (rs := [8]) (by kernel_rfl) (by simp) ?_
                refine AllReadyH.cons rfl (fun K hK => ?_) AllReadyH.nil
                go_simp
                have hM4 := Lib.hid (hM3.out.alloc (.cells #[.int .i64 x.r.i.r, .int .i64 x.r.i.n, .int .i64 x.r.bal, .int .i64 x.r.st, .int .i64 x.r.by_, .int .i64 x.r.e.o.c, .int .i64 x.r.e.o.s, .int .i64 x.r.e.o.k, .string (txt x.r.e.o.acct), .string (txt x.r.e.o.peer), .int .i64 x.r.e.o.sum, .slice x.L.a x.L.n x.L.c, .int .i64 x.r.e.o.per, .int .i64 x.r.e.o.hold, .string (txt x.r.e.o.note), .bool x.r.e.none, .slice x.D.a x.D.n x.D.c] 37))
                have z4 := Lib.hid (z3.out.mod0 ((Mod.refl none_ w3).alloc (.cells #[.int .i64 x.r.i.r, .int .i64 x.r.i.n, .int .i64 x.r.bal, .int .i64 x.r.st, .int .i64 x.r.by_, .int .i64 x.r.e.o.c, .int .i64 x.r.e.o.s, .int .i64 x.r.e.o.k, .string (txt x.r.e.o.acct), .string (txt x.r.e.o.peer), .int .i64 x.r.e.o.sum, .slice x.L.a x.L.n x.L.c, .int .i64 x.r.e.o.per, .int .i64 x.r.e.o.hold, .string (txt x.r.e.o.note), .bool x.r.e.none, .slice x.D.a x.D.n x.D.c] 37)))
                have z5 := Lib.hid (rdR_one w3 x)
                clear z3
                refine hK.out _ _ (hM4.out) (fun hHeld => ?_)
                clear hK K
                try simp only [Act.put, List.getElem_toArray, List.getElem_cons_zero, List.getElem_cons_succ, List.setIfInBounds_toArray, List.set_cons_zero, List.set_cons_succ]
                refine wpAnyH_ready (rs := [9]) (by kernel_rfl) (by simp) ?_
                refine AllReadyH.cons rfl (fun K hK => ?_) AllReadyH.nil
                refine step_accR rfl (.tmp 59) (.tmp 64) rfl hM4.out rfl z4.out rfl z5.out (by omega) ?_
                intro A6 n6 c6 w6 z6 hM6 _
                replace z6 := Lib.hid z6
                replace hM6 := Lib.hid hM6
                clear z4 z5
                refine hK.out _ _ (hM6.out) (fun hHeld => ?_)
                clear hK K
                try simp only [Act.put, List.getElem_toArray, List.getElem_cons_zero, List.getElem_cons_succ, List.setIfInBounds_toArray, List.set_cons_zero, List.set_cons_succ]
                refine wpAnyH_ready (rs := [13]) (by kernel_rfl) (by simp) ?_
                refine AllReadyH.cons rfl (fun K hK => ?_) AllReadyH.nil
                refine step_accR rfl (.tmp 65) (.tmp 68) rfl hM6.out rfl z6.out rfl (Rd.mod0 (zd.out _ _ (by first | rfl | simp) (by omega)) hM6.out) (by omega) ?_
                intro A7 n7 c7 w7 z7 hM7 _
                replace z7 := Lib.hid z7
                replace hM7 := Lib.hid hM7
                clear z6
                refine hK.out _ _ (hM7.out) (fun hHeld => ?_)
                clear hK K
                try simp only [Act.put, List.getElem_toArray, List.getElem_cons_zero, List.getElem_cons_succ, List.setIfInBounds_toArray, List.set_cons_zero, List.set_cons_succ]
                refine wpAnyH_take (i := 14) (v := ?_) rfl (by kernel_rfl) (by kernel_rfl) (by kernel_rfl) (fun _ _ _ h => h) (Or.inl ⟨by rfl, ?_⟩) (by assumption) ?_
                rotate_left
                · intro W hSw; (try dsimp only at hSw); go_simp; (try with_reducible rfl)
                try simp only [Act.put, List.getElem_toArray, List.getElem_cons_zero, List.getElem_cons_succ, List.setIfInBounds_toArray, List.set_cons_zero, List.set_cons_succ]
                refine wpAnyH_done (by kernel_rfl) ?_ _
                clear hHeld
                go_wp2_with fail
                go_roundg (gk0 - 1)
                case measure => have := hgk.out; omega
                case rel => exact ⟨j + 1, n7, c7, A7, _, by go_num, by omega, rfl, by have := z7.out.le; omega, hins.out, z7.out.ow, z7.out.fr.later hmv.out.size, hmv.out.trans hM7.out⟩
              · go_simp
                have hMa := Lib.hid (hM0.out.alloc (.cells #[.int .i64 x.r.i.r, .int .i64 x.r.i.n, .int .i64 x.r.bal, .int .i64 x.r.st, .int .i64 x.r.by_, .int .i64 x.r.e.o.c, .int .i64 x.r.e.o.s, .int .i64 x.r.e.o.k, .string (txt x.r.e.o.acct), .string (txt x.r.e.o.peer), .int .i64 x.r.e.o.sum, .slice x.L.a x.L.n x.L.c, .int .i64 x.r.e.o.per, .int .i64 x.r.e.o.hold, .string (txt x.r.e.o.note), .bool x.r.e.none, .slice x.D.a x.D.n x.D.c] 37))
                have za := Lib.hid (rdR_one wv.drew x)
                refine hK.out _ _ (hMa.out) (fun hHeld => ?_)
                clear hK K
                try simp only [Act.put, List.getElem_toArray, List.getElem_cons_zero, List.getElem_cons_succ, List.setIfInBounds_toArray, List.set_cons_zero, List.set_cons_succ]
                refine wpAnyH_ready (rs := [3]) (by kernel_rfl) (by simp) ?_
                refine AllReadyH.cons rfl (fun K hK => ?_) AllReadyH.nil
                refine step_accR rfl (.const (.slice none 0 0)) (.tmp 58) rfl hMa.out rfl (AccR.nil _ _) rfl (Rd.mod0 zt.out hMa.out) (by omega) ?_
                intro A3 n3 c3 w3 z4 hM4 hm3
                have z5 := Lib.hid (Rd.mod0 za.out hm3.nil_own)
                replace z4 := Lib.hid z4
                replace hM4 := Lib.hid hM4
                clear hm3 za
                refine hK.out _ _ (hM4.out) (fun hHeld => ?_)
                clear hK K
                try simp only [Act.put, List.getElem_toArray, List.getElem_cons_zero, List.getElem_cons_succ, List.setIfInBounds_toArray, List.set_cons_zero, List.set_cons_succ]
                refine wpAnyH_ready (rs := [9]) (by kernel_rfl) (by simp) ?_
                refine AllReadyH.cons rfl (fun K hK => ?_) AllReadyH.nil
                refine step_accR rfl (.tmp 59) (.tmp 64) rfl hM4.out rfl z4.out rfl z5.out (by omega) ?_
                intro A6 n6 c6 w6 z6 hM6 _
                replace z6 := Lib.hid z6
                replace hM6 := Lib.hid hM6
                clear z4 z5
                refine hK.out _ _ (hM6.out) (fun hHeld => ?_)
                clear hK K
                try simp only [Act.put, List.getElem_toArray, List.getElem_cons_zero, List.getElem_cons_succ, List.setIfInBounds_toArray, List.set_cons_zero, List.set_cons_succ]
                refine wpAnyH_ready (rs := [13]) (by kernel_rfl) (by simp) ?_
                refine AllReadyH.cons rfl (fun K hK => ?_) AllReadyH.nil
                refine step_accR rfl (.tmp 65) (.tmp 68) rfl hM6.out rfl z6.out rfl (Rd.mod0 (zd.out _ _ (by first | rfl | simp) (by omega)) hM6.out) (by omega) ?_
                intro A7 n7 c7 w7 z7 hM7 _
                replace z7 := Lib.hid z7
                replace hM7 := Lib.hid hM7
                clear z6
                refine hK.out _ _ (hM7.out) (fun hHeld => ?_)
                clear hK K
                try simp only [Act.put, List.getElem_toArray, List.getElem_cons_zero, List.getElem_cons_succ, List.setIfInBounds_toArray, List.set_cons_zero, List.set_cons_succ]
                refine wpAnyH_take (i := 14) (v := ?_) rfl (by kernel_rfl) (by kernel_rfl) (by kernel_rfl) (fun _ _ _ h => h) (Or.inl ⟨by rfl, ?_⟩) (by assumption) ?_
                rotate_left
                · intro W hSw; (try dsimp only at hSw); go_simp; (try with_reducible rfl)
                try simp only [Act.put, List.getElem_toArray, List.getElem_cons_zero, List.getElem_cons_succ, List.setIfInBounds_toArray, List.set_cons_zero, List.set_cons_succ]
                refine wpAnyH_done (by kernel_rfl) ?_ _
                clear hHeld
                go_wp2_with fail
                go_roundg (gk0 - 1)
                case measure => have := hgk.out; omega
                case rel => exact ⟨j + 1, n7, c7, A7, _, by go_num, by omega, rfl, by have := z7.out.le; omega, hins.out, z7.out.ow, z7.out.fr.later hmv.out.size, hmv.out.trans hM7.out⟩
            · have zt := Lib.hid zt0
              obtain ⟨r, rfl⟩ : ∃ r, m = k + r := ⟨m - k, by omega⟩
              have zd : Hid (∀ S mm, S = some (⟨g, k * 17, none⟩ : Addr) → mm = r → RdR wv S mm (ys.drop k)) := Lib.hid (fun S mm e1 e2 => by
                rw [if_neg q0, show k + r - k = r by omega, addr_add0] at zd0
                rw [e1, e2]
                exact zd0)
              have hkm5 : (k : Int) ≤ (k : Int) + (r : Int) := by omega
              clear zt0 zd0
              go_upto_region 10 with fail
              refine wp_region_held_drew (S := fun W => Mod none_ wv W) (by kernel_rfl) hM0.out (fun hHeld => ?_)
              refine wpAnyH_take (i := 0) (v := ?_) rfl (by kernel_rfl) (by kernel_rfl) (by kernel_rfl) (fun _ _ _ h => h) (Or.inl ⟨by rfl, ?_⟩) (by assumption) ?_
              rotate_left
              · intro W hSw; (try dsimp only at hSw); go_simp; (try with_reducible rfl)
              try simp only [Act.put, List.getElem_toArray, List.getElem_cons_zero, List.getElem_cons_succ, List.setIfInBounds_toArray, List.set_cons_zero, List.set_cons_succ]
              refine wpAnyH_take (i := 1) (v := ?_) rfl (by kernel_rfl) (by kernel_rfl) (by kernel_rfl) (fun _ _ _ h => h) (Or.inl ⟨by rfl, ?_⟩) (by assumption) ?_
              rotate_left
              · intro W hSw; (try dsimp only at hSw); go_simp; (try with_reducible rfl)
              try simp only [Act.put, List.getElem_toArray, List.getElem_cons_zero, List.getElem_cons_succ, List.setIfInBounds_toArray, List.set_cons_zero, List.set_cons_succ]
              refine wpAnyH_take (i := 2) (v := ?_) rfl (by kernel_rfl) (by kernel_rfl) (by kernel_rfl) (fun _ _ _ h => h) (Or.inl ⟨by rfl, ?_⟩) (by assumption) ?_
              rotate_left
              · intro W hSw; (try dsimp only at hSw); go_simp; (try with_reducible rfl)
              try simp only [Act.put, List.getElem_toArray, List.getElem_cons_zero, List.getElem_cons_succ, List.setIfInBounds_toArray, List.set_cons_zero, List.set_cons_succ]
              refine wpAnyH_take (i := 4) (v := ?_) rfl (by kernel_rfl) (by kernel_rfl) (by kernel_rfl) (fun _ _ _ h => h) (Or.inl ⟨by rfl, ?_⟩) (by assumption) ?_
              rotate_left
              · intro W hSw; (try dsimp only at hSw); go_simp; (try with_reducible rfl)
              try simp only [Act.put, List.getElem_toArray, List.getElem_cons_zero, List.getElem_cons_succ, List.setIfInBounds_toArray, List.set_cons_zero, List.set_cons_succ]
              refine wpAnyH_take (i := 5) (v := ?_) rfl (by kernel_rfl) (by kernel_rfl) (by kernel_rfl) (fun _ _ _ h => h) (Or.inl ⟨by rfl, ?_⟩) (by assumption) ?_
              rotate_left
              · intro W hSw; (try dsimp only at hSw); go_simp; (try with_reducible rfl)
              try simp only [Act.put, List.getElem_toArray, List.getElem_cons_zero, List.getElem_cons_succ, List.setIfInBounds_toArray, List.set_cons_zero, List.set_cons_succ]
              refine wpAnyH_take (i := 6) (v := ?_) rfl (by kernel_rfl) (by kernel_rfl) (by kernel_rfl) (fun _ _ _ h => h) (Or.inl ⟨by rfl, ?_⟩) (by assumption) ?_
              rotate_left
              · intro W hSw; (try dsimp only at hSw); go_simp; (try with_reducible rfl)
              try simp only [Act.put, List.getElem_toArray, List.getElem_cons_zero, List.getElem_cons_succ, List.setIfInBounds_toArray, List.set_cons_zero, List.set_cons_succ]
              refine wpAnyH_take (i := 7) rfl (by kernel_rfl) (by kernel_rfl) (by kernel_rfl) (fun _ _ _ h => h) (yieldsIf_load_mid (by rfl) 37 (.tmp 62) rfl b (o + j * 17) rfl [.int .i64 x.r.i.r, .int .i64 x.r.i.n, .int .i64 x.r.bal, .int .i64 x.r.st, .int .i64 x.r.by_, .int .i64 x.r.e.o.c, .int .i64 x.r.e.o.s, .int .i64 x.r.e.o.k, .string (txt x.r.e.o.acct), .string (txt x.r.e.o.peer), .int .i64 x.r.e.o.sum, .slice x.L.a x.L.n x.L.c, .int .i64 x.r.e.o.per, .int .i64 x.r.e.o.hold, .string (txt x.r.e.o.note), .bool x.r.e.none, .slice x.D.a x.D.n x.D.c] _ (fun W hW => hxr.out W hW) Tryz.underlying37 rfl rc_size) (by assumption) ?_
              try simp only [Act.put, List.getElem_toArray, List.getElem_cons_zero, List.getElem_cons_succ, List.setIfInBounds_toArray, List.set_cons_zero, List.set_cons_succ]
              refine wpAnyH_take (i := 10) (v := ?_) rfl (by kernel_rfl) (by kernel_rfl) (by kernel_rfl) (fun _ _ _ h => h) (Or.inl ⟨by rfl, ?_⟩) (by assumption) ?_
              rotate_left
              · intro W hSw; (try dsimp only at hSw); go_simp; (try with_reducible rfl)
              try simp only [Act.put, List.getElem_toArray, List.getElem_cons_zero, List.getElem_cons_succ, List.setIfInBounds_toArray, List.set_cons_zero, List.set_cons_succ]
              refine wpAnyH_take (i := 11) (v := ?_) rfl (by kernel_rfl) (by kernel_rfl) (by kernel_rfl) (fun _ _ _ h => h) (Or.inl ⟨by rfl, ?_⟩) (by assumption) ?_
              rotate_left
              · intro W hSw; (try dsimp only at hSw); go_simp; (try with_reducible rfl)
              try simp only [Act.put, List.getElem_toArray, List.getElem_cons_zero, List.getElem_cons_succ, List.setIfInBounds_toArray, List.set_cons_zero, List.set_cons_succ]
              refine wpAnyH_take (i := 12) (v := ?_) rfl (by kernel_rfl) (by kernel_rfl) (by kernel_rfl) (fun _ _ _ h => h) (Or.inl ⟨by rfl, ?_⟩) (by assumption) ?_
              rotate_left
              · intro W hSw; (try dsimp only at hSw); go_simp; (try with_reducible rfl)
              try simp only [Act.put, List.getElem_toArray, List.getElem_cons_zero, List.getElem_cons_succ, List.setIfInBounds_toArray, List.set_cons_zero, List.set_cons_succ]
              refine wpAnyH_ready (rs := [3, 8]) (by kernel_rfl) (by simp) ?_
              refine (AllReadyH.cons rfl (fun K hK => ?_) (AllReadyH.cons rfl (fun K hK => ?_) AllReadyH.nil))
              · refine step_accR rfl (.const (.slice none 0 0)) (.tmp 58) rfl hM0.out rfl (AccR.nil _ _) rfl (Rd.mod0 zt.out hM0.out) (by omega) ?_
                intro A3 n3 c3 w3 z3 hM3 _
                replace z3 := Lib.hid z3
                replace hM3 := Lib.hid hM3
                refine hK.out _ _ (hM3.out) (fun hHeld => ?_)
                clear hK K
                try simp only [Act.put, List.getElem_toArray, List.getElem_cons_zero, List.getElem_cons_succ, List.setIfInBounds_toArray, List.set_cons_zero, List.set_cons_succ]
                refine wpAnyH_ready (rs := [8]) (by kernel_rfl) (by simp) ?_
                refine AllReadyH.cons rfl (fun K hK => ?_) AllReadyH.nil
                go_simp
                have hM4 := Lib.hid (hM3.out.alloc (.cells #[.int .i64 x.r.i.r, .int .i64 x.r.i.n, .int .i64 x.r.bal, .int .i64 x.r.st, .int .i64 x.r.by_, .int .i64 x.r.e.o.c, .int .i64 x.r.e.o.s, .int .i64 x.r.e.o.k, .string (txt x.r.e.o.acct), .string (txt x.r.e.o.peer), .int .i64 x.r.e.o.sum, .slice x.L.a x.L.n x.L.c, .int .i64 x.r.e.o.per, .int .i64 x.r.e.o.hold, .string (txt x.r.e.o.note), .bool x.r.e.none, .slice x.D.a x.D.n x.D.c] 37))
                have z4 := Lib.hid (z3.out.mod0 ((Mod.refl none_ w3).alloc (.cells #[.int .i64 x.r.i.r, .int .i64 x.r.i.n, .int .i64 x.r.bal, .int .i64 x.r.st, .int .i64 x.r.by_, .int .i64 x.r.e.o.c, .int .i64 x.r.e.o.s, .int .i64 x.r.e.o.k, .string (txt x.r.e.o.acct), .string (txt x.r.e.o.peer), .int .i64 x.r.e.o.sum, .slice x.L.a x.L.n x.L.c, .int .i64 x.r.e.o.per, .int .i64 x.r.e.o.hold, .string (txt x.r.e.o.note), .bool x.r.e.none, .slice x.D.a x.D.n x.D.c] 37)))
                have z5 := Lib.hid (rdR_one w3 x)
                clear z3
                refine hK.out _ _ (hM4.out) (fun hHeld => ?_)
                clear hK K
                try simp only [Act.put, List.getElem_toArray, List.getElem_cons_zero, List.getElem_cons_succ, List.setIfInBounds_toArray, List.set_cons_zero, List.set_cons_succ]
                refine wpAnyH_ready (rs := [9]) (by kernel_rfl) (by simp) ?_
                refine AllReadyH.cons rfl (fun K hK => ?_) AllReadyH.nil
                refine step_accR rfl (.tmp 59) (.tmp 64) rfl hM4.out rfl z4.out rfl z5.out (by omega) ?_
                intro A6 n6 c6 w6 z6 hM6 _
                replace z6 := Lib.hid z6
                replace hM6 := Lib.hid hM6
                clear z4 z5
                refine hK.out _ _ (hM6.out) (fun hHeld => ?_)
                clear hK K
                try simp only [Act.put, List.getElem_toArray, List.getElem_cons_zero, List.getElem_cons_succ, List.setIfInBounds_toArray, List.set_cons_zero, List.set_cons_succ]
                refine wpAnyH_ready (rs := [13]) (by kernel_rfl) (by simp) ?_
                refine AllReadyH.cons rfl (fun K hK => ?_) AllReadyH.nil
                refine step_accR rfl (.tmp 65) (.tmp 68) rfl hM6.out rfl z6.out rfl (Rd.mod0 (zd.out _ _ (by first | rfl | simp) (by omega)) hM6.out) (by omega) ?_
                intro A7 n7 c7 w7 z7 hM7 _
                replace z7 := Lib.hid z7
                replace hM7 := Lib.hid hM7
                clear z6
                refine hK.out _ _ (hM7.out) (fun hHeld => ?_)
                clear hK K
                try simp only [Act.put, List.getElem_toArray, List.getElem_cons_zero, List.getElem_cons_succ, List.setIfInBounds_toArray, List.set_cons_zero, List.set_cons_succ]
                refine wpAnyH_take (i := 14) (v := ?_) rfl (by kernel_rfl) (by kernel_rfl) (by kernel_rfl) (fun _ _ _ h => h) (Or.inl ⟨by rfl, ?_⟩) (by assumption) ?_
                rotate_left
                · intro W hSw; (try dsimp only at hSw); go_simp; (try with_reducible rfl)
                try simp only [Act.put, List.getElem_toArray, List.getElem_cons_zero, List.getElem_cons_succ, List.setIfInBounds_toArray, List.set_cons_zero, List.set_cons_succ]
                refine wpAnyH_done (by kernel_rfl) ?_ _
                clear hHeld
                go_wp2_with fail
                go_roundg (gk0 - 1)
                case measure => have := hgk.out; omega
                case rel => exact ⟨j + 1, n7, c7, A7, _, by go_num, by omega, rfl, by have := z7.out.le; omega, hins.out, z7.out.ow, z7.out.fr.later hmv.out.size, hmv.out.trans hM7.out⟩
              · go_simp
                have hMa := Lib.hid (hM0.out.alloc (.cells #[.int .i64 x.r.i.r, .int .i64 x.r.i.n, .int .i64 x.r.bal, .int .i64 x.r.st, .int .i64 x.r.by_, .int .i64 x.r.e.o.c, .int .i64 x.r.e.o.s, .int .i64 x.r.e.o.k, .string (txt x.r.e.o.acct), .string (txt x.r.e.o.peer), .int .i64 x.r.e.o.sum, .slice x.L.a x.L.n x.L.c, .int .i64 x.r.e.o.per, .int .i64 x.r.e.o.hold, .string (txt x.r.e.o.note), .bool x.r.e.none, .slice x.D.a x.D.n x.D.c] 37))
                have za := Lib.hid (rdR_one wv.drew x)
                refine hK.out _ _ (hMa.out) (fun hHeld => ?_)
                clear hK K
                try simp only [Act.put, List.getElem_toArray, List.getElem_cons_zero, List.getElem_cons_succ, List.setIfInBounds_toArray, List.set_cons_zero, List.set_cons_succ]
                refine wpAnyH_ready (rs := [3]) (by kernel_rfl) (by simp) ?_
                refine AllReadyH.cons rfl (fun K hK => ?_) AllReadyH.nil
                refine step_accR rfl (.const (.slice none 0 0)) (.tmp 58) rfl hMa.out rfl (AccR.nil _ _) rfl (Rd.mod0 zt.out hMa.out) (by omega) ?_
                intro A3 n3 c3 w3 z4 hM4 hm3
                have z5 := Lib.hid (Rd.mod0 za.out hm3.nil_own)
                replace z4 := Lib.hid z4
                replace hM4 := Lib.hid hM4
                clear hm3 za
                refine hK.out _ _ (hM4.out) (fun hHeld => ?_)
                clear hK K
                try simp only [Act.put, List.getElem_toArray, List.getElem_cons_zero, List.getElem_cons_succ, List.setIfInBounds_toArray, List.set_cons_zero, List.set_cons_succ]
                refine wpAnyH_ready (rs := [9]) (by kernel_rfl) (by simp) ?_
                refine AllReadyH.cons rfl (fun K hK => ?_) AllReadyH.nil
                refine step_accR rfl (.tmp 59) (.tmp 64) rfl hM4.out rfl z4.out rfl z5.out (by omega) ?_
                intro A6 n6 c6 w6 z6 hM6 _
                replace z6 := Lib.hid z6
                replace hM6 := Lib.hid hM6
                clear z4 z5
                refine hK.out _ _ (hM6.out) (fun hHeld => ?_)
                clear hK K
                try simp only [Act.put, List.getElem_toArray, List.getElem_cons_zero, List.getElem_cons_succ, List.setIfInBounds_toArray, List.set_cons_zero, List.set_cons_succ]
                refine wpAnyH_ready (rs := [13]) (by kernel_rfl) (by simp) ?_
                refine AllReadyH.cons rfl (fun K hK => ?_) AllReadyH.nil
                refine step_accR rfl (.tmp 65) (.tmp 68) rfl hM6.out rfl z6.out rfl (Rd.mod0 (zd.out _ _ (by first | rfl | simp) (by omega)) hM6.out) (by omega) ?_
                intro A7 n7 c7 w7 z7 hM7 _
                replace z7 := Lib.hid z7
                replace hM7 := Lib.hid hM7
                clear z6
                refine hK.out _ _ (hM7.out) (fun hHeld => ?_)
                clear hK K
                try simp only [Act.put, List.getElem_toArray, List.getElem_cons_zero, List.getElem_cons_succ, List.setIfInBounds_toArray, List.set_cons_zero, List.set_cons_succ]
                refine wpAnyH_take (i := 14) (v := ?_) rfl (by kernel_rfl) (by kernel_rfl) (by kernel_rfl) (fun _ _ _ h => h) (Or.inl ⟨by rfl, ?_⟩) (by assumption) ?_
                rotate_left
                · intro W hSw; (try dsimp only at hSw); go_simp; (try with_reducible rfl)
                try simp only [Act.put, List.getElem_toArray, List.getElem_cons_zero, List.getElem_cons_succ, List.setIfInBounds_toArray, List.set_cons_zero, List.set_cons_succ]
                refine wpAnyH_done (by kernel_rfl) ?_ _
                clear hHeld
                go_wp2_with fail
                go_roundg (gk0 - 1)
                case measure => have := hgk.out; omega
                case rel => exact ⟨j + 1, n7, c7, A7, _, by go_num, by omega, rfl, by have := z7.out.le; omega, hins.out, z7.out.ow, z7.out.fr.later hmv.out.size, hmv.out.trans hM7.out⟩
        · obtain ⟨k1, rfl⟩ : ∃ k1, k = k1 + 1 := ⟨k - 1, by omega⟩
          obtain ⟨g, cur, hBg, -, -, -⟩ := Ow.form ho.out (show 0 < m by omega)
          obtain ⟨b2, o2, y, hB2, hym, hy, hrg⟩ := rdr_get (w := wo) ho.out.rd (j := k1) (by omega)
          have hbg : b2 = g ∧ o2 = 0 := by rw [hBg] at hB2; cases hB2; exact ⟨rfl, rfl⟩
          obtain ⟨rfl, rfl⟩ := hbg
          subst hBg
          rw [Nat.zero_add] at hrg
          have y1 : wo.cell? ⟨b2, k1 * 17, none⟩ = some (.int .i64 y.r.i.r) := hrg 0 _ rfl
          have y2 : wo.cell? ⟨b2, k1 * 17 + 1, none⟩ = some (.int .i64 y.r.i.n) := hrg 1 _ rfl
          have v1 : wo.cell? ⟨b, o + j * 17, none⟩ = some (.int .i64 x.r.i.r) := hbo.out wo hm.out 0 _ rfl
          have v2 : wo.cell? ⟨b, o + j * 17 + 1, none⟩ = some (.int .i64 x.r.i.n) := hbo.out wo hm.out 1 _ rfl
          have g1 : ∀ s : Cls (Mod none_ wo), s.W.cell? ⟨b2, k1 * 17, none⟩ = some (.int .i64 y.r.i.r) := fun s => s.ok.cell_some y1 (fun h => h)
          have g2 : ∀ s : Cls (Mod none_ wo), s.W.cell? ⟨b2, k1 * 17 + 1, none⟩ = some (.int .i64 y.r.i.n) := fun s => s.ok.cell_some y2 (fun h => h)
          have g3 : ∀ s : Cls (Mod none_ wo), s.W.cell? ⟨b, o + j * 17, none⟩ = some (.int .i64 x.r.i.r) := fun s => s.ok.cell_some v1 (fun h => h)
          have g4 : ∀ s : Cls (Mod none_ wo), s.W.cell? ⟨b, o + j * 17 + 1, none⟩ = some (.int .i64 x.r.i.n) := fun s => s.ok.cell_some v2 (fun h => h)
          clear y1 y2 v1 v2 hrg
          have d1 : decide (((k1 + 1 : Nat) : Int) > 0) = true := decide_eq_true (by omega)
          have d2 : decide (0 < k1 + 1) = true := decide_eq_true (by omega)
          have d3 : decide ((0 : Int) < (k1 : Int) + 1) = true := decide_eq_true (by omega)
          have hw1 : wrap64 (((k1 + 1 : Nat) : Int) - 1) = (k1 : Int) := by unfold wrap64; omega
          have hw2 : IntKind.i64.wrap (((k1 + 1 : Nat) : Int) - 1) = (k1 : Int) := by rw [IntKind.wrap_i64]; omega
          have hw3 : ((k1 : Int) + 1 - 1) = (k1 : Int) := by omega
          have hu3 : (0 : Int) ≤ (k1 : Int) := by omega
          have hu4 : (k1 : Int) < (m : Int) := by omega
          have hk4 : k1 < 1000 := by omega
          have hM0 := Lib.hid hmi
          have ka := Lib.hid (fun s : Cls (Mod none_ wo) => (r14ahead_ok s.W x.r.i y.r.i).mono (fun e w' (h : _ ∧ _) => (⟨h.1, s.ok.trans h.2⟩ : _ ∧ Mod none_ wo w')))
          have hei := fun W => eql_is W y.r.i x.r.i
          unfold isV at hei
          try dsimp only at hei
          replace hbe := Lib.hid hbe
          replace hym := Lib.hid hym
          replace hy := Lib.hid hy
          clear hmi hk0 hB2
          cases hlt2 : isLt x.r.i y.r.i with
          | true =>
            rw [hlt2] at ka
            have hbe2 : Hid (∀ z ∈ ys.drop k1, isLt x.r.i z.r.i = true) := Lib.hid (fun z hz => by
              obtain ⟨h1, e1⟩ := List.getElem?_eq_some_iff.1 hy.out
              rw [List.drop_eq_getElem_cons h1, e1] at hz
              rcases List.mem_cons.1 hz with rfl | hz
              · exact hlt2
              · exact hbe.out z hz)
            replace hlt2 := Lib.hid hlt2
            have hne : Nonempty (Cls (Mod none_ wo)) := ⟨⟨wo, Mod.refl _ _⟩⟩
            go_upto_region 6 with fail
            refine wp_region_cls (Mod none_ wo) (by kernel_rfl) (by kernel_rfl) (hM0.out.drew) ?_
            try simp only [List.append_eq, List.cons_append, List.nil_append]
            repeat (go_big_quiet_step ((go_at_call 65; exact cls_of (ka.out _))))
            refine wpQuiet_nil ?_
            rintro wv ⟨⟨wz, hM8⟩, hz⟩
            have hM9 : Mod none_ wo wv := by rw [hz]; exact hM8
            clear hz hM8
            have hM1 := Lib.hid hM9
            clear ka hM9 hM0 hei g1 g2 g3 g4
            go_wp2_with fail
            go_roundw
            case rel => exact ⟨k1, by go_num, by omega, hbe2.out, hM1.out⟩
            case measure => simp [intOf] <;> omega
          | false =>
            rw [hlt2] at ka
            by_cases he : y.r.i = x.r.i
            · -- the same place
              rw [decide_eq_true he] at hei
              have hup : Hid (LastOf (xs.take (j + 1)) (ys.set k1 x)) := Lib.hid (by rw [ht1.out]; exact hla.out.upd hy.out he)
              replace hlt2 := Lib.hid hlt2
              replace he := Lib.hid he
              have hne : Nonempty (Cls (Mod none_ wo)) := ⟨⟨wo, Mod.refl _ _⟩⟩
              go_upto_region 6 with fail
              refine wp_region_cls (Mod none_ wo) (by kernel_rfl) (by kernel_rfl) (hM0.out.drew) ?_
              try simp only [List.append_eq, List.cons_append, List.nil_append]
              repeat (go_big_quiet_step ((go_at_call 65; exact cls_of (ka.out _))))
              refine wpQuiet_nil ?_
              rintro wv ⟨⟨wz, hM8⟩, hz⟩
              have hM9 : Mod none_ wo wv := by rw [hz]; exact hM8
              clear hz hM8
              have hM1 := Lib.hid hM9
              clear ka hM9 hM0
              go_upto_region 8 with fail
              refine wp_region_cls (Mod none_ wo) (by kernel_rfl) (by kernel_rfl) (hM1.out.drew) ?_
              try simp only [List.append_eq, List.cons_append, List.nil_append]
              repeat (go_big_quiet_step (fail))
              refine wpQuiet_nil ?_
              rintro wv ⟨⟨wz, hM8⟩, hz⟩
              have hM9 : Mod none_ wo wv := by rw [hz]; exact hM8
              clear hz hM8
              have hM2 := Lib.hid hM9
              clear hM9 hM1
              have hmv := Lib.hid (hm.out.trans hM2.out)
              have howv := Lib.hid (ho.out.mod0 hM2.out)
              have hxr := Lib.hid (hbo.out wv hmv.out)
              have hth := owR_there howv.out (i := k1) (by omega)
              clear g1 g2 g3 g4 hei
              go_wp2_with (first
                | (refine wpList_load_mid rfl 37 (.tmp 53) rfl b (o + j * 17) rfl _ _ hxr.out Tryz.underlying37 rfl rc_size ?_)
                | (refine wpList_storeR rfl (.tmp 55) (.tmp 54) rfl b2 k1 x rfl rfl hth ?_; intro w6 hw6))
              go_roundg (gk0 - 1)
              case measure => have := hgk.out; omega
              case rel =>
                have hs6 := owM_set howv.out (i := k1) (by omega) x
                have hm6 : Mod (fp (some ⟨b2, 0, none⟩)) wv w6 := by rw [hw6.out]; exact Mod.setCells _ _ _ _ (Mod.refl _ wv) ⟨_, rfl, rfl⟩
                rw [← hw6.out] at hs6
                exact ⟨j + 1, m, d, _, _, by go_num, by omega, rfl, by omega, hup.out, hs6, hf.out, hmv.out.app hf.out hm6⟩
            · rw [decide_eq_false he] at hei
              have hah : Hid (∀ z ∈ ys.take (k1 + 1), isLt z.r.i x.r.i = true) := Lib.hid (hla.out.before hy.out (isLt_total hlt2 he))
              replace hlt2 := Lib.hid hlt2
              replace he := Lib.hid he
              have hne : Nonempty (Cls (Mod none_ wo)) := ⟨⟨wo, Mod.refl _ _⟩⟩
              go_upto_region 6 with fail
              refine wp_region_cls (Mod none_ wo) (by kernel_rfl) (by kernel_rfl) (hM0.out.drew) ?_
              try simp only [List.append_eq, List.cons_append, List.nil_append]
              repeat (go_big_quiet_step ((go_at_call 65; exact cls_of (ka.out _))))
              refine wpQuiet_nil ?_
              rintro wv ⟨⟨wz, hM8⟩, hz⟩
              have hM9 : Mod none_ wo wv := by rw [hz]; exact hM8
              clear hz hM8
              have hM1 := Lib.hid hM9
              clear ka hM9 hM0
              go_upto_region 8 with fail
              refine wp_region_cls (Mod none_ wo) (by kernel_rfl) (by kernel_rfl) (hM1.out.drew) ?_
              try simp only [List.append_eq, List.cons_append, List.nil_append]
              repeat (go_big_quiet_step (fail))
              refine wpQuiet_nil ?_
              rintro wv ⟨⟨wz, hM8⟩, hz⟩
              have hM9 : Mod none_ wo wv := by rw [hz]; exact hM8
              clear hz hM8
              have hM2 := Lib.hid hM9
              clear hM9 hM1
              clear g1 g2 g3 g4 hei d1 d2 d3 hw1 hw2 hw3 hu3 hu4
              obtain ⟨k, hkk⟩ : ∃ k, k = k1 + 1 := ⟨_, rfl⟩
              have hkz : (k : Int) = (k1 : Int) + 1 := by omega
              rw [← hkk] at hah hbe hk
              try rw [← hkz]
              try rw [← hkk]
              clear hkz
              replace hkk := Lib.hid hkk
              have hmv := Lib.hid (hm.out.trans hM2.out)
              have howv := ho.out.mod0 hM2.out
              have hins : Hid (LastOf (xs.take (j + 1)) ((([] ++ ys.take k) ++ [x]) ++ ys.drop k)) := Lib.hid (by rw [ht1.out]; exact hla.out.ins k hah.out hbe.out)
              have hk2 : k ≤ d := by omega
              have hkm1 : (0 : Int) ≤ (k : Int) := by omega
              have hkm2 : (k : Int) ≤ (m : Int) := by omega
              have hkm3 : (k : Int) ≤ (d : Int) := by omega
              have hkm4 : (m : Int) ≤ (d : Int) := by omega
              have zt0 := rdR_take (w := wv) howv.rd hk
              have zd0 := rdR_drop (w := wv) (c := d) howv.rd hk hmd
              have hxr : Hid (∀ W, Mod none_ wv W → W.rangeAt b (o + j * 17) [.int .i64 x.r.i.r, .int .i64 x.r.i.n, .int .i64 x.r.bal, .int .i64 x.r.st, .int .i64 x.r.by_, .int .i64 x.r.e.o.c, .int .i64 x.r.e.o.s, .int .i64 x.r.e.o.k, .string (txt x.r.e.o.acct), .string (txt x.r.e.o.peer), .int .i64 x.r.e.o.sum, .slice x.L.a x.L.n x.L.c, .int .i64 x.r.e.o.per, .int .i64 x.r.e.o.hold, .string (txt x.r.e.o.note), .bool x.r.e.none, .slice x.D.a x.D.n x.D.c]) := Lib.hid (fun W hW => hbo.out W (hmv.out.trans hW))
              have hM0 := Lib.hid ((Mod.refl none_ wv).drew)
              clear howv
              by_cases q0 : d = k
              · have q1 : k = d := q0.symm
                subst q1
                have q2 : k = m := by omega
                subst q2
                clear q0
                have zt := Lib.hid zt0
                have zd : Hid (∀ S mm, S = some (⟨b2, 0, none⟩ : Addr) → mm = 0 → RdR wv S mm (ys.drop k)) := Lib.hid (fun S mm e1 e2 => by
                  rw [if_pos rfl, Nat.sub_self] at zd0
                  rw [e1, e2]; exact zd0)
                clear zt0 zd0
                go_upto_region 10 with fail
                refine wp_region_held_drew (S := fun W => Mod none_ wv W) (by kernel_rfl) hM0.out (fun hHeld => ?_)
                refine wpAnyH_take (i := 0) (v := ?_) rfl (by kernel_rfl) (by kernel_rfl) (by kernel_rfl) (fun _ _ _ h => h) (Or.inl ⟨by rfl, ?_⟩) (by assumption) ?_
                rotate_left
                · intro W hSw; (try dsimp only at hSw); go_simp; (try with_reducible rfl)
                try simp only [Act.put, List.getElem_toArray, List.getElem_cons_zero, List.getElem_cons_succ, List.setIfInBounds_toArray, List.set_cons_zero, List.set_cons_succ]
                refine wpAnyH_take (i := 1) (v := ?_) rfl (by kernel_rfl) (by kernel_rfl) (by kernel_rfl) (fun _ _ _ h => h) (Or.inl ⟨by rfl, ?_⟩) (by assumption) ?_
                rotate_left
                · intro W hSw; (try dsimp only at hSw); go_simp; (try with_reducible rfl)
                try simp only [Act.put, List.getElem_toArray, List.getElem_cons_zero, List.getElem_cons_succ, List.setIfInBounds_toArray, List.set_cons_zero, List.set_cons_succ]
                refine wpAnyH_take (i := 2) (v := ?_) rfl (by kernel_rfl) (by kernel_rfl) (by kernel_rfl) (fun _ _ _ h => h) (Or.inl ⟨by rfl, ?_⟩) (by assumption) ?_
                rotate_left
                · intro W hSw; (try dsimp only at hSw); go_simp; (try with_reducible rfl)
                try simp only [Act.put, List.getElem_toArray, List.getElem_cons_zero, List.getElem_cons_succ, List.setIfInBounds_toArray, List.set_cons_zero, List.set_cons_succ]
                refine wpAnyH_take (i := 4) (v := ?_) rfl (by kernel_rfl) (by kernel_rfl) (by kernel_rfl) (fun _ _ _ h => h) (Or.inl ⟨by rfl, ?_⟩) (by assumption) ?_
                rotate_left
                · intro W hSw; (try dsimp only at hSw); go_simp; (try with_reducible rfl)
                try simp only [Act.put, List.getElem_toArray, List.getElem_cons_zero, List.getElem_cons_succ, List.setIfInBounds_toArray, List.set_cons_zero, List.set_cons_succ]
                refine wpAnyH_take (i := 5) (v := ?_) rfl (by kernel_rfl) (by kernel_rfl) (by kernel_rfl) (fun _ _ _ h => h) (Or.inl ⟨by rfl, ?_⟩) (by assumption) ?_
                rotate_left
                · intro W hSw; (try dsimp only at hSw); go_simp; (try with_reducible rfl)
                try simp only [Act.put, List.getElem_toArray, List.getElem_cons_zero, List.getElem_cons_succ, List.setIfInBounds_toArray, List.set_cons_zero, List.set_cons_succ]
                refine wpAnyH_take (i := 6) (v := ?_) rfl (by kernel_rfl) (by kernel_rfl) (by kernel_rfl) (fun _ _ _ h => h) (Or.inl ⟨by rfl, ?_⟩) (by assumption) ?_
                rotate_left
                · intro W hSw; (try dsimp only at hSw); go_simp; (try with_reducible rfl)
                try simp only [Act.put, List.getElem_toArray, List.getElem_cons_zero, List.getElem_cons_succ, List.setIfInBounds_toArray, List.set_cons_zero, List.set_cons_succ]
                refine wpAnyH_take (i := 7) rfl (by kernel_rfl) (by kernel_rfl) (by kernel_rfl) (fun _ _ _ h => h) (yieldsIf_load_mid (by rfl) 37 (.tmp 62) rfl b (o + j * 17) rfl [.int .i64 x.r.i.r, .int .i64 x.r.i.n, .int .i64 x.r.bal, .int .i64 x.r.st, .int .i64 x.r.by_, .int .i64 x.r.e.o.c, .int .i64 x.r.e.o.s, .int .i64 x.r.e.o.k, .string (txt x.r.e.o.acct), .string (txt x.r.e.o.peer), .int .i64 x.r.e.o.sum, .slice x.L.a x.L.n x.L.c, .int .i64 x.r.e.o.per, .int .i64 x.r.e.o.hold, .string (txt x.r.e.o.note), .bool x.r.e.none, .slice x.D.a x.D.n x.D.c] _ (fun W hW => hxr.out W hW) Tryz.underlying37 rfl rc_size) (by assumption) ?_
                try simp only [Act.put, List.getElem_toArray, List.getElem_cons_zero, List.getElem_cons_succ, List.setIfInBounds_toArray, List.set_cons_zero, List.set_cons_succ]
                refine wpAnyH_take (i := 10) (v := ?_) rfl (by kernel_rfl) (by kernel_rfl) (by kernel_rfl) (fun _ _ _ h => h) (Or.inl ⟨by rfl, ?_⟩) (by assumption) ?_
                rotate_left
                · intro W hSw; (try dsimp only at hSw); go_simp; (try with_reducible rfl)
                try simp only [Act.put, List.getElem_toArray, List.getElem_cons_zero, List.getElem_cons_succ, List.setIfInBounds_toArray, List.set_cons_zero, List.set_cons_succ]
                refine wpAnyH_take (i := 11) (v := ?_) rfl (by kernel_rfl) (by kernel_rfl) (by kernel_rfl) (fun _ _ _ h => h) (Or.inl ⟨by rfl, ?_⟩) (by assumption) ?_
                rotate_left
                · intro W hSw; (try dsimp only at hSw); go_simp; (try with_reducible rfl)
                try simp only [Act.put, List.getElem_toArray, List.getElem_cons_zero, List.getElem_cons_succ, List.setIfInBounds_toArray, List.set_cons_zero, List.set_cons_succ]
                refine wpAnyH_take (i := 12) (v := ?_) rfl (by kernel_rfl) (by kernel_rfl) (by kernel_rfl) (fun _ _ _ h => h) (Or.inl ⟨by rfl, ?_⟩) (by assumption) ?_
                rotate_left
                · intro W hSw; (try dsimp only at hSw); go_simp; (try with_reducible rfl)
                try simp only [Act.put, List.getElem_toArray, List.getElem_cons_zero, List.getElem_cons_succ, List.setIfInBounds_toArray, List.set_cons_zero, List.set_cons_succ]
                refine wpAnyH_ready (rs := [3, 8]) (by kernel_rfl) (by simp) ?_
                refine (AllReadyH.cons rfl (fun K hK => ?_) (AllReadyH.cons rfl (fun K hK => ?_) AllReadyH.nil))
                · refine step_accR rfl (.const (.slice none 0 0)) (.tmp 58) rfl hM0.out rfl (AccR.nil _ _) rfl (Rd.mod0 zt.out hM0.out) (by omega) ?_
                  intro A3 n3 c3 w3 z3 hM3 _
                  replace z3 := Lib.hid z3
                  replace hM3 := Lib.hid hM3
                  refine hK.out _ _ (hM3.out) (fun hHeld => ?_)
                  clear hK K
                  try simp only [Act.put, List.getElem_toArray, List.getElem_cons_zero, List.getElem_cons_succ, List.setIfInBounds_toArray, List.set_cons_zero, List.set_cons_succ]
                  refine wpAnyH_ready (rs := [8]) (by kernel_rfl) (by simp) ?_
                  refine AllReadyH.cons rfl (fun K hK => ?_) AllReadyH.nil
                  go_simp
                  have hM4 := Lib.hid (hM3.out.alloc (.cells #[.int .i64 x.r.i.r, .int .i64 x.r.i.n, .int .i64 x.r.bal, .int .i64 x.r.st, .int .i64 x.r.by_, .int .i64 x.r.e.o.c, .int .i64 x.r.e.o.s, .int .i64 x.r.e.o.k, .string (txt x.r.e.o.acct), .string (txt x.r.e.o.peer), .int .i64 x.r.e.o.sum, .slice x.L.a x.L.n x.L.c, .int .i64 x.r.e.o.per, .int .i64 x.r.e.o.hold, .string (txt x.r.e.o.note), .bool x.r.e.none, .slice x.D.a x.D.n x.D.c] 37))
                  have z4 := Lib.hid (z3.out.mod0 ((Mod.refl none_ w3).alloc (.cells #[.int .i64 x.r.i.r, .int .i64 x.r.i.n, .int .i64 x.r.bal, .int .i64 x.r.st, .int .i64 x.r.by_, .int .i64 x.r.e.o.c, .int .i64 x.r.e.o.s, .int .i64 x.r.e.o.k, .string (txt x.r.e.o.acct), .string (txt x.r.e.o.peer), .int .i64 x.r.e.o.sum, .slice x.L.a x.L.n x.L.c, .int .i64 x.r.e.o.per, .int .i64 x.r.e.o.hold, .string (txt x.r.e.o.note), .bool x.r.e.none, .slice x.D.a x.D.n x.D.c] 37)))
                  have z5 := Lib.hid (rdR_one w3 x)
                  clear z3
                  refine hK.out _ _ (hM4.out) (fun hHeld => ?_)
                  clear hK K
                  try simp only [Act.put, List.getElem_toArray, List.getElem_cons_zero, List.getElem_cons_succ, List.setIfInBounds_toArray, List.set_cons_zero, List.set_cons_succ]
                  refine wpAnyH_ready (rs := [9]) (by kernel_rfl) (by simp) ?_
                  refine AllReadyH.cons rfl (fun K hK => ?_) AllReadyH.nil
                  refine step_accR rfl (.tmp 59) (.tmp 64) rfl hM4.out rfl z4.out rfl z5.out (by omega) ?_
                  intro A6 n6 c6 w6 z6 hM6 _
                  replace z6 := Lib.hid z6
                  replace hM6 := Lib.hid hM6
                  clear z4 z5
                  refine hK.out _ _ (hM6.out) (fun hHeld => ?_)
                  clear hK K
                  try simp only [Act.put, List.getElem_toArray, List.getElem_cons_zero, List.getElem_cons_succ, List.setIfInBounds_toArray, List.set_cons_zero, List.set_cons_succ]
                  refine wpAnyH_ready (rs := [13]) (by kernel_rfl) (by simp) ?_
                  refine AllReadyH.cons rfl (fun K hK => ?_) AllReadyH.nil
                  refine step_accR rfl (.tmp 65) (.tmp 68) rfl hM6.out rfl z6.out rfl (Rd.mod0 (zd.out _ _ (by first | rfl | simp) (by omega)) hM6.out) (by omega) ?_
                  intro A7 n7 c7 w7 z7 hM7 _
                  replace z7 := Lib.hid z7
                  replace hM7 := Lib.hid hM7
                  clear z6
                  refine hK.out _ _ (hM7.out) (fun hHeld => ?_)
                  clear hK K
                  try simp only [Act.put, List.getElem_toArray, List.getElem_cons_zero, List.getElem_cons_succ, List.setIfInBounds_toArray, List.set_cons_zero, List.set_cons_succ]
                  refine wpAnyH_take (i := 14) (v := ?_) rfl (by kernel_rfl) (by kernel_rfl) (by kernel_rfl) (fun _ _ _ h => h) (Or.inl ⟨by rfl, ?_⟩) (by assumption) ?_
                  rotate_left
                  · intro W hSw; (try dsimp only at hSw); go_simp; (try with_reducible rfl)
                  try simp only [Act.put, List.getElem_toArray, List.getElem_cons_zero, List.getElem_cons_succ, List.setIfInBounds_toArray, List.set_cons_zero, List.set_cons_succ]
                  refine wpAnyH_done (by kernel_rfl) ?_ _
                  clear hHeld
                  go_wp2_with fail
                  go_roundg (gk0 - 1)
                  case measure => have := hgk.out; omega
                  case rel => exact ⟨j + 1, n7, c7, A7, _, by go_num, by omega, rfl, by have := z7.out.le; omega, hins.out, z7.out.ow, z7.out.fr.later hmv.out.size, hmv.out.trans hM7.out⟩
                · go_simp
                  have hMa := Lib.hid (hM0.out.alloc (.cells #[.int .i64 x.r.i.r, .int .i64 x.r.i.n, .int .i64 x.r.bal, .int .i64 x.r.st, .int .i64 x.r.by_, .int .i64 x.r.e.o.c, .int .i64 x.r.e.o.s, .int .i64 x.r.e.o.k, .string (txt x.r.e.o.acct), .string (txt x.r.e.o.peer), .int .i64 x.r.e.o.sum, .slice x.L.a x.L.n x.L.c, .int .i64 x.r.e.o.per, .int .i64 x.r.e.o.hold, .string (txt x.r.e.o.note), .bool x.r.e.none, .slice x.D.a x.D.n x.D.c] 37))
                  have za := Lib.hid (rdR_one wv.drew x)
                  refine hK.out _ _ (hMa.out) (fun hHeld => ?_)
                  clear hK K
                  try simp only [Act.put, List.getElem_toArray, List.getElem_cons_zero, List.getElem_cons_succ, List.setIfInBounds_toArray, List.set_cons_zero, List.set_cons_succ]
                  refine wpAnyH_ready (rs := [3]) (by kernel_rfl) (by simp) ?_
                  refine AllReadyH.cons rfl (fun K hK => ?_) AllReadyH.nil
                  refine step_accR rfl (.const (.slice none 0 0)) (.tmp 58) rfl hMa.out rfl (AccR.nil _ _) rfl (Rd.mod0 zt.out hMa.out) (by omega) ?_
                  intro A3 n3 c3 w3 z4 hM4 hm3
                  have z5 := Lib.hid (Rd.mod0 za.out hm3.nil_own)
                  replace z4 := Lib.hid z4
                  replace hM4 := Lib.hid hM4
                  clear hm3 za
                  refine hK.out _ _ (hM4.out) (fun hHeld => ?_)
                  clear hK K
                  try simp only [Act.put, List.getElem_toArray, List.getElem_cons_zero, List.getElem_cons_succ, List.setIfInBounds_toArray, List.set_cons_zero, List.set_cons_succ]
                  refine wpAnyH_ready (rs := [9]) (by kernel_rfl) (by simp) ?_
                  refine AllReadyH.cons rfl (fun K hK => ?_) AllReadyH.nil
                  refine step_accR rfl (.tmp 59) (.tmp 64) rfl hM4.out rfl z4.out rfl z5.out (by omega) ?_
                  intro A6 n6 c6 w6 z6 hM6 _
                  replace z6 := Lib.hid z6
                  replace hM6 := Lib.hid hM6
                  clear z4 z5
                  refine hK.out _ _ (hM6.out) (fun hHeld => ?_)
                  clear hK K
                  try simp only [Act.put, List.getElem_toArray, List.getElem_cons_zero, List.getElem_cons_succ, List.setIfInBounds_toArray, List.set_cons_zero, List.set_cons_succ]
                  refine wpAnyH_ready (rs := [13]) (by kernel_rfl) (by simp) ?_
                  refine AllReadyH.cons rfl (fun K hK => ?_) AllReadyH.nil
                  refine step_accR rfl (.tmp 65) (.tmp 68) rfl hM6.out rfl z6.out rfl (Rd.mod0 (zd.out _ _ (by first | rfl | simp) (by omega)) hM6.out) (by omega) ?_
                  intro A7 n7 c7 w7 z7 hM7 _
                  replace z7 := Lib.hid z7
                  replace hM7 := Lib.hid hM7
                  clear z6
                  refine hK.out _ _ (hM7.out) (fun hHeld => ?_)
                  clear hK K
                  try simp only [Act.put, List.getElem_toArray, List.getElem_cons_zero, List.getElem_cons_succ, List.setIfInBounds_toArray, List.set_cons_zero, List.set_cons_succ]
                  refine wpAnyH_take (i := 14) (v := ?_) rfl (by kernel_rfl) (by kernel_rfl) (by kernel_rfl) (fun _ _ _ h => h) (Or.inl ⟨by rfl, ?_⟩) (by assumption) ?_
                  rotate_left
                  · intro W hSw; (try dsimp only at hSw); go_simp; (try with_reducible rfl)
                  try simp only [Act.put, List.getElem_toArray, List.getElem_cons_zero, List.getElem_cons_succ, List.setIfInBounds_toArray, List.set_cons_zero, List.set_cons_succ]
                  refine wpAnyH_done (by kernel_rfl) ?_ _
                  clear hHeld
                  go_wp2_with fail
                  go_roundg (gk0 - 1)
                  case measure => have := hgk.out; omega
                  case rel => exact ⟨j + 1, n7, c7, A7, _, by go_num, by omega, rfl, by have := z7.out.le; omega, hins.out, z7.out.ow, z7.out.fr.later hmv.out.size, hmv.out.trans hM7.out⟩
              · have zt := Lib.hid zt0
                obtain ⟨r, rfl⟩ : ∃ r, m = k + r := ⟨m - k, by omega⟩
                have zd : Hid (∀ S mm, S = some (⟨b2, k * 17, none⟩ : Addr) → mm = r → RdR wv S mm (ys.drop k)) := Lib.hid (fun S mm e1 e2 => by
                  rw [if_neg q0, show k + r - k = r by omega, addr_add0] at zd0
                  rw [e1, e2]
                  exact zd0)
                have hkm5 : (k : Int) ≤ (k : Int) + (r : Int) := by omega
                clear zt0 zd0
                go_upto_region 10 with fail
                refine wp_region_held_drew (S := fun W => Mod none_ wv W) (by kernel_rfl) hM0.out (fun hHeld => ?_)
                refine wpAnyH_take (i := 0) (v := ?_) rfl (by kernel_rfl) (by kernel_rfl) (by kernel_rfl) (fun _ _ _ h => h) (Or.inl ⟨by rfl, ?_⟩) (by assumption) ?_
                rotate_left
                · intro W hSw; (try dsimp only at hSw); go_simp; (try with_reducible rfl)
                try simp only [Act.put, List.getElem_toArray, List.getElem_cons_zero, List.getElem_cons_succ, List.setIfInBounds_toArray, List.set_cons_zero, List.set_cons_succ]
                refine wpAnyH_take (i := 1) (v := ?_) rfl (by kernel_rfl) (by kernel_rfl) (by kernel_rfl) (fun _ _ _ h => h) (Or.inl ⟨by rfl, ?_⟩) (by assumption) ?_
                rotate_left
                · intro W hSw; (try dsimp only at hSw); go_simp; (try with_reducible rfl)
                try simp only [Act.put, List.getElem_toArray, List.getElem_cons_zero, List.getElem_cons_succ, List.setIfInBounds_toArray, List.set_cons_zero, List.set_cons_succ]
                refine wpAnyH_take (i := 2) (v := ?_) rfl (by kernel_rfl) (by kernel_rfl) (by kernel_rfl) (fun _ _ _ h => h) (Or.inl ⟨by rfl, ?_⟩) (by assumption) ?_
                rotate_left
                · intro W hSw; (try dsimp only at hSw); go_simp; (try with_reducible rfl)
                try simp only [Act.put, List.getElem_toArray, List.getElem_cons_zero, List.getElem_cons_succ, List.setIfInBounds_toArray, List.set_cons_zero, List.set_cons_succ]
                refine wpAnyH_take (i := 4) (v := ?_) rfl (by kernel_rfl) (by kernel_rfl) (by kernel_rfl) (fun _ _ _ h => h) (Or.inl ⟨by rfl, ?_⟩) (by assumption) ?_
                rotate_left
                · intro W hSw; (try dsimp only at hSw); go_simp; (try with_reducible rfl)
                try simp only [Act.put, List.getElem_toArray, List.getElem_cons_zero, List.getElem_cons_succ, List.setIfInBounds_toArray, List.set_cons_zero, List.set_cons_succ]
                refine wpAnyH_take (i := 5) (v := ?_) rfl (by kernel_rfl) (by kernel_rfl) (by kernel_rfl) (fun _ _ _ h => h) (Or.inl ⟨by rfl, ?_⟩) (by assumption) ?_
                rotate_left
                · intro W hSw; (try dsimp only at hSw); go_simp; (try with_reducible rfl)
                try simp only [Act.put, List.getElem_toArray, List.getElem_cons_zero, List.getElem_cons_succ, List.setIfInBounds_toArray, List.set_cons_zero, List.set_cons_succ]
                refine wpAnyH_take (i := 6) (v := ?_) rfl (by kernel_rfl) (by kernel_rfl) (by kernel_rfl) (fun _ _ _ h => h) (Or.inl ⟨by rfl, ?_⟩) (by assumption) ?_
                rotate_left
                · intro W hSw; (try dsimp only at hSw); go_simp; (try with_reducible rfl)
                try simp only [Act.put, List.getElem_toArray, List.getElem_cons_zero, List.getElem_cons_succ, List.setIfInBounds_toArray, List.set_cons_zero, List.set_cons_succ]
                refine wpAnyH_take (i := 7) rfl (by kernel_rfl) (by kernel_rfl) (by kernel_rfl) (fun _ _ _ h => h) (yieldsIf_load_mid (by rfl) 37 (.tmp 62) rfl b (o + j * 17) rfl [.int .i64 x.r.i.r, .int .i64 x.r.i.n, .int .i64 x.r.bal, .int .i64 x.r.st, .int .i64 x.r.by_, .int .i64 x.r.e.o.c, .int .i64 x.r.e.o.s, .int .i64 x.r.e.o.k, .string (txt x.r.e.o.acct), .string (txt x.r.e.o.peer), .int .i64 x.r.e.o.sum, .slice x.L.a x.L.n x.L.c, .int .i64 x.r.e.o.per, .int .i64 x.r.e.o.hold, .string (txt x.r.e.o.note), .bool x.r.e.none, .slice x.D.a x.D.n x.D.c] _ (fun W hW => hxr.out W hW) Tryz.underlying37 rfl rc_size) (by assumption) ?_
                try simp only [Act.put, List.getElem_toArray, List.getElem_cons_zero, List.getElem_cons_succ, List.setIfInBounds_toArray, List.set_cons_zero, List.set_cons_succ]
                refine wpAnyH_take (i := 10) (v := ?_) rfl (by kernel_rfl) (by kernel_rfl) (by kernel_rfl) (fun _ _ _ h => h) (Or.inl ⟨by rfl, ?_⟩) (by assumption) ?_
                rotate_left
                · intro W hSw; (try dsimp only at hSw); go_simp; (try with_reducible rfl)
                try simp only [Act.put, List.getElem_toArray, List.getElem_cons_zero, List.getElem_cons_succ, List.setIfInBounds_toArray, List.set_cons_zero, List.set_cons_succ]
                refine wpAnyH_take (i := 11) (v := ?_) rfl (by kernel_rfl) (by kernel_rfl) (by kernel_rfl) (fun _ _ _ h => h) (Or.inl ⟨by rfl, ?_⟩) (by assumption) ?_
                rotate_left
                · intro W hSw; (try dsimp only at hSw); go_simp; (try with_reducible rfl)
                try simp only [Act.put, List.getElem_toArray, List.getElem_cons_zero, List.getElem_cons_succ, List.setIfInBounds_toArray, List.set_cons_zero, List.set_cons_succ]
                refine wpAnyH_take (i := 12) (v := ?_) rfl (by kernel_rfl) (by kernel_rfl) (by kernel_rfl) (fun _ _ _ h => h) (Or.inl ⟨by rfl, ?_⟩) (by assumption) ?_
                rotate_left
                · intro W hSw; (try dsimp only at hSw); go_simp; (try with_reducible rfl)
                try simp only [Act.put, List.getElem_toArray, List.getElem_cons_zero, List.getElem_cons_succ, List.setIfInBounds_toArray, List.set_cons_zero, List.set_cons_succ]
                refine wpAnyH_ready (rs := [3, 8]) (by kernel_rfl) (by simp) ?_
                refine (AllReadyH.cons rfl (fun K hK => ?_) (AllReadyH.cons rfl (fun K hK => ?_) AllReadyH.nil))
                · refine step_accR rfl (.const (.slice none 0 0)) (.tmp 58) rfl hM0.out rfl (AccR.nil _ _) rfl (Rd.mod0 zt.out hM0.out) (by omega) ?_
                  intro A3 n3 c3 w3 z3 hM3 _
                  replace z3 := Lib.hid z3
                  replace hM3 := Lib.hid hM3
                  refine hK.out _ _ (hM3.out) (fun hHeld => ?_)
                  clear hK K
                  try simp only [Act.put, List.getElem_toArray, List.getElem_cons_zero, List.getElem_cons_succ, List.setIfInBounds_toArray, List.set_cons_zero, List.set_cons_succ]
                  refine wpAnyH_ready (rs := [8]) (by kernel_rfl) (by simp) ?_
                  refine AllReadyH.cons rfl (fun K hK => ?_) AllReadyH.nil
                  go_simp
                  have hM4 := Lib.hid (hM3.out.alloc (.cells #[.int .i64 x.r.i.r, .int .i64 x.r.i.n, .int .i64 x.r.bal, .int .i64 x.r.st, .int .i64 x.r.by_, .int .i64 x.r.e.o.c, .int .i64 x.r.e.o.s, .int .i64 x.r.e.o.k, .string (txt x.r.e.o.acct), .string (txt x.r.e.o.peer), .int .i64 x.r.e.o.sum, .slice x.L.a x.L.n x.L.c, .int .i64 x.r.e.o.per, .int .i64 x.r.e.o.hold, .string (txt x.r.e.o.note), .bool x.r.e.none, .slice x.D.a x.D.n x.D.c] 37))
                  have z4 := Lib.hid (z3.out.mod0 ((Mod.refl none_ w3).alloc (.cells #[.int .i64 x.r.i.r, .int .i64 x.r.i.n, .int .i64 x.r.bal, .int .i64 x.r.st, .int .i64 x.r.by_, .int .i64 x.r.e.o.c, .int .i64 x.r.e.o.s, .int .i64 x.r.e.o.k, .string (txt x.r.e.o.acct), .string (txt x.r.e.o.peer), .int .i64 x.r.e.o.sum, .slice x.L.a x.L.n x.L.c, .int .i64 x.r.e.o.per, .int .i64 x.r.e.o.hold, .string (txt x.r.e.o.note), .bool x.r.e.none, .slice x.D.a x.D.n x.D.c] 37)))
                  have z5 := Lib.hid (rdR_one w3 x)
                  clear z3
                  refine hK.out _ _ (hM4.out) (fun hHeld => ?_)
                  clear hK K
                  try simp only [Act.put, List.getElem_toArray, List.getElem_cons_zero, List.getElem_cons_succ, List.setIfInBounds_toArray, List.set_cons_zero, List.set_cons_succ]
                  refine wpAnyH_ready (rs := [9]) (by kernel_rfl) (by simp) ?_
                  refine AllReadyH.cons rfl (fun K hK => ?_) AllReadyH.nil
                  refine step_accR rfl (.tmp 59) (.tmp 64) rfl hM4.out rfl z4.out rfl z5.out (by omega) ?_
                  intro A6 n6 c6 w6 z6 hM6 _
                  replace z6 := Lib.hid z6
                  replace hM6 := Lib.hid hM6
                  clear z4 z5
                  refine hK.out _ _ (hM6.out) (fun hHeld => ?_)
                  clear hK K
                  try simp only [Act.put, List.getElem_toArray, List.getElem_cons_zero, List.getElem_cons_succ, List.setIfInBounds_toArray, List.set_cons_zero, List.set_cons_succ]
                  refine wpAnyH_ready (rs := [13]) (by kernel_rfl) (by simp) ?_
                  refine AllReadyH.cons rfl (fun K hK => ?_) AllReadyH.nil
                  refine step_accR rfl (.tmp 65) (.tmp 68) rfl hM6.out rfl z6.out rfl (Rd.mod0 (zd.out _ _ (by first | rfl | simp) (by omega)) hM6.out) (by omega) ?_
                  intro A7 n7 c7 w7 z7 hM7 _
                  replace z7 := Lib.hid z7
                  replace hM7 := Lib.hid hM7
                  clear z6
                  refine hK.out _ _ (hM7.out) (fun hHeld => ?_)
                  clear hK K
                  try simp only [Act.put, List.getElem_toArray, List.getElem_cons_zero, List.getElem_cons_succ, List.setIfInBounds_toArray, List.set_cons_zero, List.set_cons_succ]
                  refine wpAnyH_take (i := 14) (v := ?_) rfl (by kernel_rfl) (by kernel_rfl) (by kernel_rfl) (fun _ _ _ h => h) (Or.inl ⟨by rfl, ?_⟩) (by assumption) ?_
                  rotate_left
                  · intro W hSw; (try dsimp only at hSw); go_simp; (try with_reducible rfl)
                  try simp only [Act.put, List.getElem_toArray, List.getElem_cons_zero, List.getElem_cons_succ, List.setIfInBounds_toArray, List.set_cons_zero, List.set_cons_succ]
                  refine wpAnyH_done (by kernel_rfl) ?_ _
                  clear hHeld
                  go_wp2_with fail
                  go_roundg (gk0 - 1)
                  case measure => have := hgk.out; omega
                  case rel => exact ⟨j + 1, n7, c7, A7, _, by go_num, by omega, rfl, by have := z7.out.le; omega, hins.out, z7.out.ow, z7.out.fr.later hmv.out.size, hmv.out.trans hM7.out⟩
                · go_simp
                  have hMa := Lib.hid (hM0.out.alloc (.cells #[.int .i64 x.r.i.r, .int .i64 x.r.i.n, .int .i64 x.r.bal, .int .i64 x.r.st, .int .i64 x.r.by_, .int .i64 x.r.e.o.c, .int .i64 x.r.e.o.s, .int .i64 x.r.e.o.k, .string (txt x.r.e.o.acct), .string (txt x.r.e.o.peer), .int .i64 x.r.e.o.sum, .slice x.L.a x.L.n x.L.c, .int .i64 x.r.e.o.per, .int .i64 x.r.e.o.hold, .string (txt x.r.e.o.note), .bool x.r.e.none, .slice x.D.a x.D.n x.D.c] 37))
                  have za := Lib.hid (rdR_one wv.drew x)
                  refine hK.out _ _ (hMa.out) (fun hHeld => ?_)
                  clear hK K
                  try simp only [Act.put, List.getElem_toArray, List.getElem_cons_zero, List.getElem_cons_succ, List.setIfInBounds_toArray, List.set_cons_zero, List.set_cons_succ]
                  refine wpAnyH_ready (rs := [3]) (by kernel_rfl) (by simp) ?_
                  refine AllReadyH.cons rfl (fun K hK => ?_) AllReadyH.nil
                  refine step_accR rfl (.const (.slice none 0 0)) (.tmp 58) rfl hMa.out rfl (AccR.nil _ _) rfl (Rd.mod0 zt.out hMa.out) (by omega) ?_
                  intro A3 n3 c3 w3 z4 hM4 hm3
                  have z5 := Lib.hid (Rd.mod0 za.out hm3.nil_own)
                  replace z4 := Lib.hid z4
                  replace hM4 := Lib.hid hM4
                  clear hm3 za
                  refine hK.out _ _ (hM4.out) (fun hHeld => ?_)
                  clear hK K
                  try simp only [Act.put, List.getElem_toArray, List.getElem_cons_zero, List.getElem_cons_succ, List.setIfInBounds_toArray, List.set_cons_zero, List.set_cons_succ]
                  refine wpAnyH_ready (rs := [9]) (by kernel_rfl) (by simp) ?_
                  refine AllReadyH.cons rfl (fun K hK => ?_) AllReadyH.nil
                  refine step_accR rfl (.tmp 59) (.tmp 64) rfl hM4.out rfl z4.out rfl z5.out (by omega) ?_
                  intro A6 n6 c6 w6 z6 hM6 _
                  replace z6 := Lib.hid z6
                  replace hM6 := Lib.hid hM6
                  clear z4 z5
                  refine hK.out _ _ (hM6.out) (fun hHeld => ?_)
                  clear hK K
                  try simp only [Act.put, List.getElem_toArray, List.getElem_cons_zero, List.getElem_cons_succ, List.setIfInBounds_toArray, List.set_cons_zero, List.set_cons_succ]
                  refine wpAnyH_ready (rs := [13]) (by kernel_rfl) (by simp) ?_
                  refine AllReadyH.cons rfl (fun K hK => ?_) AllReadyH.nil
                  refine step_accR rfl (.tmp 65) (.tmp 68) rfl hM6.out rfl z6.out rfl (Rd.mod0 (zd.out _ _ (by first | rfl | simp) (by omega)) hM6.out) (by omega) ?_
                  intro A7 n7 c7 w7 z7 hM7 _
                  replace z7 := Lib.hid z7
                  replace hM7 := Lib.hid hM7
                  clear z6
                  refine hK.out _ _ (hM7.out) (fun hHeld => ?_)
                  clear hK K
                  try simp only [Act.put, List.getElem_toArray, List.getElem_cons_zero, List.getElem_cons_succ, List.setIfInBounds_toArray, List.set_cons_zero, List.set_cons_succ]
                  refine wpAnyH_take (i := 14) (v := ?_) rfl (by kernel_rfl) (by kernel_rfl) (by kernel_rfl) (fun _ _ _ h => h) (Or.inl ⟨by rfl, ?_⟩) (by assumption) ?_
                  rotate_left
                  · intro W hSw; (try dsimp only at hSw); go_simp; (try with_reducible rfl)
                  try simp only [Act.put, List.getElem_toArray, List.getElem_cons_zero, List.getElem_cons_succ, List.setIfInBounds_toArray, List.set_cons_zero, List.set_cons_succ]
                  refine wpAnyH_done (by kernel_rfl) ?_ _
                  clear hHeld
                  go_wp2_with fail
                  go_roundg (gk0 - 1)
                  case measure => have := hgk.out; omega
                  case rel => exact ⟨j + 1, n7, c7, A7, _, by go_num, by omega, rfl, by have := z7.out.le; omega, hins.out, z7.out.ow, z7.out.fr.later hmv.out.size, hmv.out.trans hM7.out⟩

end Go.Proofs.YtdnbclhidpkpgaaGreat
