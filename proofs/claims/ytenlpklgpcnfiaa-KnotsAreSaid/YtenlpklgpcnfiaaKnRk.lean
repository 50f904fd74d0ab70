/-
  The reference's Knots: the walk.
-/
import Derived.Test.YtenlpklgpcnfiaaKnRkP
import Derived.Test.YtenlpklgpcnfiaaKnW
namespace Go.Proofs.Ytenlpklgpcnfiaa
set_option linter.unusedVariables false
open Go.RowKit
theorem MMem.modF {F : Nat → Prop} {w0 w w' : World} {M n i : Nat} {q : Nat → Nat} {m : Nat → Nat → Bool} (h : MMem w0 w M n i q m) (hm : Mod F w w') (h0 : ∀ k, k < w0.heap.size → ¬ F k) (hM : ¬ F M) (hq : ∀ a, a < i → ¬ F (q a)) : MMem w0 w' M n i q m :=
  ⟨h.m0.then hm fun k hk e => h0 k hk e, h.fM, h.bM.mod hm hM, fun a ha => (h.row a ha).mod hm (hq a ha), h.fq, h.neM, h.inj⟩
theorem kseq_false {g : List (List Int)} {ks : List (List Nat)} (h : KSeq g (fun _ => False) ks) : KSeq g (fun v => (fun _ => false) v = true) ks := by
  have : (fun _ : Nat => False) = fun v => (fun _ : Nat => false) v = true := by funext v; simp
  rw [← this]; exact h
noncomputable def dnK (g : List (List Int)) (dn : Nat → Bool) (x k : Nat) : Nat → Bool := fun v => dn v || (decide (v < k) && inK g x v)
theorem dnK_zero {g : List (List Int)} {dn : Nat → Bool} {x : Nat} : dnK g dn x 0 = dn := by
  funext v
  unfold dnK
  rw [decide_eq_false (Nat.not_lt_zero v), Bool.false_and, Bool.or_false]
theorem dnK_put {g : List (List Int)} {dn : Nat → Bool} {x k : Nat} (h : inK g x k = true) : upd (dnK g dn x k) k true = dnK g dn x (k + 1) := by
  funext v
  by_cases e : v = k
  · subst e
    rw [upd_self]
    unfold dnK
    rw [h, decide_eq_true (show v < v + 1 by omega), Bool.true_and, Bool.or_true]
  · rw [upd_ne _ _ e]
    unfold dnK
    rw [show decide (v < k) = decide (v < k + 1) by rw [decide_eq_decide]; omega]
theorem dnK_skip {g : List (List Int)} {dn : Nat → Bool} {x k : Nat} (h : ¬ inK g x k = true) : dnK g dn x (k + 1) = dnK g dn x k := by
  funext v
  unfold dnK
  by_cases e : v = k
  · subst e
    rw [show inK g x v = false by simpa using h, Bool.and_false, Bool.and_false]
  · rw [show decide (v < k) = decide (v < k + 1) by rw [decide_eq_decide]; omega]
def RKnPost (KS : List (List Nat)) (w : World) (e : Ending) (w' : World) : Prop := ∃ G c ss, e = .returned (.slice G KS.length c) ∧ OwG w' G KS.length c ss (KS.map zs) ∧ Fresh w G ∧ Mod none_ w w'
set_option maxRecDepth 100000 in
set_option maxHeartbeats 16000000 in
theorem rknots_ok (w : World) (A : Option Addr) (n c : Nat) (ss : List SV) (g : List (List Int)) (hg : RdG w A n ss g) (hn : n ≤ 100000) (KS : List (List Nat)) (hKS : KSeq g (fun _ => False) KS) (hKl : KS.length ≤ 100000) :
    Calls Try.prog 18 #[.slice A n c] w (RKnPost KS w) := by
  have hgl := hg.len
  have kr := Lib.hid (rreach_ok w A n c ss g hg (by omega))
  have hmk := fun W => make_run (P := Try.prog) W 23 4 _ 1 n Try.underlying23 boolinfo rfl (by omega) (by omega)
  obtain ⟨L, hL⟩ : ∃ L, KS.length = L := ⟨_, rfl⟩
  rw [hL] at hKl
  replace hg := Lib.hid hg
  replace hgl := Lib.hid hgl
  replace hKS := Lib.hid hKS
  replace hL := Lib.hid hL
  go_enter Try.func18, Try.ntmps18
  go_wp2_with fail
  with_reducible refine kr.out.mono ?_
  rintro e w1 ⟨M, q, mm, rfl, hM1, hmm⟩
  dsimp only
  have hM2 := hM1.mod0 ((Mod.refl none_ w1).alloc (.cells (madeCells #[.bool false] n) 4))
  have hB2 : Blk (w1.alloc (.cells (madeCells #[.bool false] n) 4)) w1.heap.size 4 (rowT n fun _ => false) := by rw [← made_rowT]; exact Blk.new w1 _ _
  have hqd : ∀ a, a < n → q a ≠ w1.heap.size := fun a ha => by have := (hM1.row a ha).lt; omega
  have hMd : M ≠ w1.heap.size := by have := hM1.bM.lt; omega
  have hd0 : w.heap.size ≤ w1.heap.size := hM1.m0.size
  generalize hdB : w1.heap.size = dB at *
  replace hM1 := Lib.hid hM1
  replace hmm := Lib.hid hmm
  replace hM2 := Lib.hid hM2
  replace hB2 := Lib.hid hB2
  replace hqd := Lib.hid hqd
  replace hMd := Lib.hid hMd
  replace hd0 := Lib.hid hd0
  go_wp2_with fail
  go_loopg [5] L (fun k v wr => ∃ j G d ss dn, v = .slice G j d ∧ j + k = L ∧ OwG wr G j d ss ((KS.take j).map zs) ∧ Fresh w G ∧ MMem w wr M n n q mm ∧ Blk wr dB 4 (rowT n dn) ∧ KSeq g (fun v => dn v = true) (KS.drop j))
  case atStart => exact ⟨0, none, 0, [], fun _ => false, rfl, by omega, OwG.nil _, fun a ha => (by cases ha), hM2.out, hB2.out, kseq_false hKS.out⟩
  case round =>
    clear hM1 hM2 hB2
    obtain ⟨j, G, d, ss', dn, rfl, hjL, hO, hfG, hM, hdn, hks⟩ := hrel
    replace hO := Lib.hid hO
    replace hfG := Lib.hid hfG
    replace hM := Lib.hid hM
    replace hdn := Lib.hid hdn
    replace hks := Lib.hid hks
    have hout : Hid (∀ nx : Int, NextAt g dn 0 nx → (nx = -1 ∧ KS.drop j = []) ∨ ∃ (x : Nat) (rest : List (List Nat)), nx = (x : Int) ∧ x < g.length ∧ dn x = false ∧ KS.drop j = knotOf g x :: rest ∧ KSeq g (fun v => dn v = true ∨ v ∈ knotOf g x) rest) := Lib.hid fun nx h => h.seq hks.out
    go_wp2_with fail
    go_loopg [6, 7] n (fun i v6 v wr2 => ∃ x nx, v = .int .i64 x ∧ x + 1 = (i : Int) ∧ i ≤ n ∧ v6 = .int .i64 nx ∧ NextAt g dn i nx ∧ wr2 = wr)
    case atStart => exact ⟨_, -1, rfl, by omega, Nat.le_refl _, rfl, by rw [← hgl.out]; exact NextAt.start, rfl⟩
    case round =>
      obtain ⟨x, nx, rfl, hxi, hin, rfl, hnx, rfl⟩ := hrel
      rename World => wo
      rcases Nat.eq_zero_or_pos gk with h0 | h0
      · subst h0
        obtain rfl : x = -1 := by omega
        rcases hout.out nx hnx with ⟨rfl, hnil⟩ | ⟨x, rest, rfl, hxl, hdx, hdrop, hrest⟩
        · have hjl : L ≤ j := by rw [← hL.out]; exact List.drop_eq_nil_iff.1 hnil
          obtain rfl : j = L := by omega
          replace hnx := Lib.hid hnx
          replace hnil := Lib.hid hnil
          go_wp2_with fail
          go_ret
          have ht : KS.take j = KS := List.take_of_length_le (by rw [hL.out]; exact Nat.le_refl _)
          have hO' := hO.out
          rw [ht] at hO'
          exact ⟨G, d, ss', by rw [hL.out]; rfl, by rw [hL.out]; exact hO', hfG.out, hM.out.m0⟩
        · rw [hgl.out] at hxl
          have hj2 : j < L := by
            rw [← hL.out]
            rcases Nat.lt_or_ge j KS.length with h | h
            · exact h
            · rw [List.drop_eq_nil_of_le h] at hdrop; cases hdrop
          have hd1 : ¬ ((x : Int) < 0) := by omega
          have hpl := fun k => pickI_len (inK g x) k
          replace hnx := Lib.hid hnx
          replace hdrop := Lib.hid hdrop
          replace hrest := Lib.hid hrest
          replace hdx := Lib.hid hdx
          go_wp2_with fail
          go_loopg [10, 11] n (fun k2 v10 v W => ∃ k B c', v = .int .i64 (k : Nat) ∧ k + k2 = n ∧ v10 = .slice B (pickI (inK g x) k).length c' ∧ OwZ W B (pickI (inK g x) k).length c' (zs (pickI (inK g x) k)) ∧ Fresh wo B ∧ Mod (fun k => k = dB) wo W ∧ Blk W dB 4 (rowT n (dnK g dn x k)))
          case atStart => exact ⟨0, none, 0, rfl, by omega, rfl, Ow.nil _ _ _, fun a ha => (by cases ha), Mod.refl _ _, by rw [dnK_zero]; exact hdn.out⟩
          case round =>
            obtain ⟨k, B, c', rfl, hkk, rfl, ho, hf, hmW, hdW⟩ := hrel
            have hMW : MMem w wr M n n q mm := hM.out.modF hmW (fun k hk e => by have := hd0.out; omega) hMd.out hqd.out
            have hpx := pickI_succ (inK g x) k
            have hpk := hpl k
            generalize hpn : (pickI (inK g x) k).length = pn at *
            by_cases hkn : k < n
            · obtain ⟨y1, y2, _⟩ := hMW.cell (a := x) (v := k) hxl (Nat.le_refl _) hkn
              obtain ⟨y3, y4, _⟩ := hMW.cell (a := k) (v := x) hkn (Nat.le_refl _) hxl
              have hv1 := hmm.out x k hxl hkn
              have hv2 := hmm.out k x hkn hxl
              have hik : inK g x k = true ↔ k = x ∨ (mm x k = true ∧ mm k x = true) := by rw [hv1, hv2]; exact inK_iff (by rw [hgl.out]; exact hkn)
              clear hv1 hv2
              by_cases hkx : k = x
              · subst hkx
                have hin : inK g k k = true := hik.2 (.inl rfl)
                have hde : ((k : Int) == (k : Int)) = true := by simp
                rw [if_pos hin] at hpx
                have y5 := (hdW.alloc (.cells #[.int .i64 (k : Int)] 3)).cell_ (rowT_get (dnK g dn k k) hkn)
                have hnx5 := Lib.hid (fun w5 (hm5 : Mod (fp B) (wr.alloc (.cells #[.int .i64 (k : Int)] 3)) w5) =>
                  (show (∃ ov, w5.cell? ⟨dB, k, none⟩ = some (.bool ov)) ∧ w5.frozen? ⟨dB, k, none⟩ = false ∧ Mod (fun k => k = dB) wo (w5.setCell ⟨dB, k, none⟩ (.bool true)) ∧ Blk (w5.setCell ⟨dB, k, none⟩ (.bool true)) dB 4 (rowT n (dnK g dn k (k + 1))) ∧ ∀ B5 c5 l, OwZ w5 B5 (pn + 1) c5 l → OwZ (w5.setCell ⟨dB, k, none⟩ (.bool true)) B5 (pn + 1) c5 l from by
                    have hb5 := (hdW.alloc (.cells #[.int .i64 (k : Int)] 3)).mod hm5 (Ow.ne_blk (Ow.mod0 ho ((Mod.refl none_ wr).alloc _)) (hdW.alloc (.cells #[.int .i64 (k : Int)] 3)) (by decide))
                    refine ⟨⟨_, hb5.cell_ (rowT_get _ hkn)⟩, hb5.frozen k, ?_, ?_, fun B5 c5 l h => Ow.mod h ((Mod.refl (fun j => j = dB) w5).setCell (p := ⟨dB, k, none⟩) (.inl rfl) _) (fun j hj e => Ow.ne_blk h hb5 (by decide) (e ▸ hj))⟩
                    · exact ((hmW.alloc _).then hm5 (fun i hi ⟨a, ha, e⟩ => by have := hf a ha; omega)).setCell (p := ⟨dB, k, none⟩) (.inl rfl) _
                    · have := hb5.set_ k (.bool true)
                      rw [rowT_set, dnK_put hin] at this
                      exact this))
                clear y5
                replace ho := Lib.hid ho
                replace hf := Lib.hid hf
                replace hmW := Lib.hid hmW
                replace hdW := Lib.hid hdW
                replace hMW := Lib.hid hMW
                replace hpx := Lib.hid hpx
                replace hpn := Lib.hid hpn
                replace hin := Lib.hid hin
                replace hik := Lib.hid hik
                go_wp2_with (at_builtin; go_loud (refine appZ rfl (.tmp 91) (.tmp 93) rfl rfl (Ow.mod0 ho.out ((Mod.refl none_ _).alloc _)) rfl (rdi_one _ _ (k : Int)) (by omega) ?_; intro B5 c5 w5 ho5 hm5 hB5; obtain ⟨⟨ov, q1⟩, q2, q3, q4, q5⟩ := hnx5.out _ hm5; replace q5 := Lib.hid (q5 _ _ _ ho5); replace ho5 := Lib.hid ho5; replace hm5 := Lib.hid hm5; replace hB5 := Lib.hid hB5; replace q3 := Lib.hid q3; replace q4 := Lib.hid q4))
                go_roundg (gk - 1)
                case measure => omega
                case rel =>
                  have hlen : (pickI (inK g k) (k + 1)).length = pn + 1 := by rw [hpx.out, List.length_append, hpn.out]; rfl
                  refine ⟨k + 1, B5, c5, by go_num, by omega, by rw [hlen], ?_, Fresh.app hf.out (hmW.out.alloc _).size hB5.out, q3.out, q4.out⟩
                  rw [hlen, hpx.out, zs_app]
                  exact q5.out
              · have hde : ((k : Int) == (x : Int)) = false := by simp; omega
                cases hm1 : mm x k with
                | false =>
                  have hin : ¬ inK g x k = true := fun h => (hik.1 h).elim hkx fun h => by rw [hm1] at h; cases h.1
                  rw [hm1] at y2
                  rw [if_neg hin] at hpx
                  rw [← dnK_skip hin] at hdW
                  replace ho := Lib.hid ho
                  replace hf := Lib.hid hf
                  replace hmW := Lib.hid hmW
                  replace hdW := Lib.hid hdW
                  replace hMW := Lib.hid hMW
                  replace hpx := Lib.hid hpx
                  replace hpn := Lib.hid hpn
                  replace hin := Lib.hid hin
                  replace hik := Lib.hid hik
                  go_wp2_with fail
                  go_roundg (gk - 1)
                  case measure => omega
                  case rel => exact ⟨k + 1, B, c', by go_num, by omega, by rw [hpx.out, hpn.out], by rw [hpx.out, hpn.out]; exact ho.out, hf.out, hmW.out, hdW.out⟩
                | true =>
                  rw [hm1] at y2
                  cases hm2 : mm k x with
                  | false =>
                    have hin : ¬ inK g x k = true := fun h => (hik.1 h).elim hkx fun h => by rw [hm2] at h; cases h.2
                    rw [hm2] at y4
                    rw [if_neg hin] at hpx
                    rw [← dnK_skip hin] at hdW
                    replace ho := Lib.hid ho
                    replace hf := Lib.hid hf
                    replace hmW := Lib.hid hmW
                    replace hdW := Lib.hid hdW
                    replace hMW := Lib.hid hMW
                    replace hpx := Lib.hid hpx
                    replace hpn := Lib.hid hpn
                    replace hin := Lib.hid hin
                    replace hik := Lib.hid hik
                    go_wp2_with fail
                    go_roundg (gk - 1)
                    case measure => omega
                    case rel => exact ⟨k + 1, B, c', by go_num, by omega, by rw [hpx.out, hpn.out], by rw [hpx.out, hpn.out]; exact ho.out, hf.out, hmW.out, hdW.out⟩
                  | true =>
                    have hin : inK g x k = true := hik.2 (.inr ⟨hm1, hm2⟩)
                    rw [hm2] at y4
                    rw [if_pos hin] at hpx
                    have y5 := (hdW.alloc (.cells #[.int .i64 (k : Int)] 3)).cell_ (rowT_get (dnK g dn x k) hkn)
                    have hnx5 := Lib.hid (fun w5 (hm5 : Mod (fp B) (wr.alloc (.cells #[.int .i64 (k : Int)] 3)) w5) =>
                      (show (∃ ov, w5.cell? ⟨dB, k, none⟩ = some (.bool ov)) ∧ w5.frozen? ⟨dB, k, none⟩ = false ∧ Mod (fun k => k = dB) wo (w5.setCell ⟨dB, k, none⟩ (.bool true)) ∧ Blk (w5.setCell ⟨dB, k, none⟩ (.bool true)) dB 4 (rowT n (dnK g dn x (k + 1))) ∧ ∀ B5 c5 l, OwZ w5 B5 (pn + 1) c5 l → OwZ (w5.setCell ⟨dB, k, none⟩ (.bool true)) B5 (pn + 1) c5 l from by
                        have hb5 := (hdW.alloc (.cells #[.int .i64 (k : Int)] 3)).mod hm5 (Ow.ne_blk (Ow.mod0 ho ((Mod.refl none_ wr).alloc _)) (hdW.alloc (.cells #[.int .i64 (k : Int)] 3)) (by decide))
                        refine ⟨⟨_, hb5.cell_ (rowT_get _ hkn)⟩, hb5.frozen k, ?_, ?_, fun B5 c5 l h => Ow.mod h ((Mod.refl (fun j => j = dB) w5).setCell (p := ⟨dB, k, none⟩) (.inl rfl) _) (fun j hj e => Ow.ne_blk h hb5 (by decide) (e ▸ hj))⟩
                        · exact ((hmW.alloc _).then hm5 (fun i hi ⟨a, ha, e⟩ => by have := hf a ha; omega)).setCell (p := ⟨dB, k, none⟩) (.inl rfl) _
                        · have := hb5.set_ k (.bool true)
                          rw [rowT_set, dnK_put hin] at this
                          exact this))
                    clear y5
                    replace ho := Lib.hid ho
                    replace hf := Lib.hid hf
                    replace hmW := Lib.hid hmW
                    replace hdW := Lib.hid hdW
                    replace hMW := Lib.hid hMW
                    replace hpx := Lib.hid hpx
                    replace hpn := Lib.hid hpn
                    replace hin := Lib.hid hin
                    replace hik := Lib.hid hik
                    go_wp2_with (at_builtin; go_loud (refine appZ rfl (.tmp 91) (.tmp 93) rfl rfl (Ow.mod0 ho.out ((Mod.refl none_ _).alloc _)) rfl (rdi_one _ _ (k : Int)) (by omega) ?_; intro B5 c5 w5 ho5 hm5 hB5; obtain ⟨⟨ov, q1⟩, q2, q3, q4, q5⟩ := hnx5.out _ hm5; replace q5 := Lib.hid (q5 _ _ _ ho5); replace ho5 := Lib.hid ho5; replace hm5 := Lib.hid hm5; replace hB5 := Lib.hid hB5; replace q3 := Lib.hid q3; replace q4 := Lib.hid q4))
                    go_roundg (gk - 1)
                    case measure => omega
                    case rel =>
                      have hlen : (pickI (inK g x) (k + 1)).length = pn + 1 := by rw [hpx.out, List.length_append, hpn.out]; rfl
                      refine ⟨k + 1, B5, c5, by go_num, by omega, by rw [hlen], ?_, Fresh.app hf.out (hmW.out.alloc _).size hB5.out, q3.out, q4.out⟩
                      rw [hlen, hpx.out, zs_app]
                      exact q5.out
            · obtain rfl : k = n := by omega
              have hpe : pickI (inK g x) k = knotOf g x := by rw [← hgl.out]; exact pick_knot
              have hks2 : KSeq g (fun v => dnK g dn x k v = true) (KS.drop (j + 1)) := by
                have h1 : KS.drop (j + 1) = rest := by
                  rw [← List.tail_drop, hdrop.out]; rfl
                rw [h1]
                refine kseq_dn hrest.out fun v hv => ?_
                rw [hgl.out] at hv
                unfold dnK
                rw [decide_eq_true hv, Bool.true_and]
              have htk : KS.take (j + 1) = KS.take j ++ [knotOf g x] := by
                have h1 : KS[j]? = some (knotOf g x) := by
                  have : (KS.drop j)[0]? = some (knotOf g x) := by rw [hdrop.out]; rfl
                  rw [List.getElem?_drop] at this
                  exact this
                rw [List.take_add_one, h1]; rfl
              rw [hpe] at ho
              have hO2 : OwG wr G j d ss' ((KS.take j).map zs) := hO.out.mod hmW (fun k hk e => Ow.ne_blk hO.out.1 hdn.out (by decide) (e ▸ hk)) (fun i s l _ hrd hpos k hk e => rdi_rowT hrd hpos hdn.out (e ▸ hk))
              have hO3 := hO2.mod0 ((Mod.refl none_ wr).alloc (.cells #[.slice B pn c'] 28))
              have hnx5 := Lib.hid (fun G2 d2 w5 (ho5 : Ow w5 28 1 G2 (j + 1) d2 ((ss' ++ [SV.mk B pn c']).map SV.v)) (hm5 : Mod (fp G) (wr.alloc (.cells #[.slice B pn c'] 28)) w5) (hG5 : G2 = G ∨ G2 = some ⟨(wr.alloc (.cells #[.slice B pn c'] 28)).heap.size, 0, none⟩) =>
                (show OwG w5 G2 (j + 1) d2 (ss' ++ [SV.mk B pn c']) ((KS.take (j + 1)).map zs) ∧ Fresh w G2 ∧ MMem w w5 M k k q mm ∧ Blk w5 dB 4 (rowT k (dnK g dn x k)) from by
                  have hm3 := hMW.mod0 ((Mod.refl none_ wr).alloc (.cells #[.slice B pn c'] 28))
                  have hd3 := hdW.alloc (.cells #[.slice B pn c'] 28)
                  refine ⟨?_, Fresh.app hfG.out hm3.m0.size hG5, ?_, hd3.mod hm5 (Ow.ne_blk hO3.1 hd3 (by decide))⟩
                  · rw [htk, List.map_append]
                    exact hO3.push (s := ⟨B, pn, c'⟩) (Rd.mod0 (Ow.rd ho) ((Mod.refl none_ wr).alloc _)) ho.2.1 (by dsimp only; omega) (fun _ => Ow.ne_ow (Ow.mod0 ho ((Mod.refl none_ wr).alloc _)) hO3.1 (by decide)) ho5 hm5 (hG5.imp id fun e => ⟨_, e, Nat.le_refl _⟩)
                  · exact hm3.modF hm5 (fun k hk ⟨a, ha, e⟩ => by have := hfG.out a ha; omega) (Ow.ne_blk hO3.1 hm3.bM (by decide)) (fun a ha => Ow.ne_blk hO3.1 (hm3.row a ha) (by decide))))
              replace ho := Lib.hid ho
              replace hf := Lib.hid hf
              replace hmW := Lib.hid hmW
              replace hdW := Lib.hid hdW
              replace hMW := Lib.hid hMW
              replace hpx := Lib.hid hpx
              replace hpn := Lib.hid hpn
              replace hpe := Lib.hid hpe
              replace hks2 := Lib.hid hks2
              replace htk := Lib.hid htk
              replace hO2 := Lib.hid hO2
              replace hO3 := Lib.hid hO3
              go_wp2_with (at_builtin; go_loud (refine appG rfl (.tmp 98) (.tmp 100) rfl rfl hO3.out.1 rfl (rds_one _ _ rfl _ ⟨B, pn, c'⟩) (by omega) ?_; intro G2 d2 w5 ho5 hm5 hG5; obtain ⟨q1, q2, q3, q4⟩ := hnx5.out _ _ _ ho5 hm5 hG5; replace ho5 := Lib.hid ho5; replace hm5 := Lib.hid hm5; replace hG5 := Lib.hid hG5; replace q1 := Lib.hid q1; replace q2 := Lib.hid q2; replace q3 := Lib.hid q3; replace q4 := Lib.hid q4))
              go_roundg (L - (j + 1))
              case measure => omega
              case rel => exact ⟨j + 1, G2, d2, _, _, rfl, by omega, q1.out, q2.out, q3.out, q4.out, hks2.out⟩
      · obtain ⟨i, rfl⟩ : ∃ i, gk = i + 1 := ⟨gk - 1, by omega⟩
        obtain rfl : x = (i : Int) := by omega
        have hil : i < n := by omega
        have yd := hdn.out.cell_ (rowT_get dn hil)
        have hd1 : (0 : Int) ≤ (i : Int) := by omega
        replace hnx := Lib.hid hnx
        go_wp2_with fail
        go_loopg [8, 9] n (fun k2 v8 v W => ∃ k, v = .int .i64 (k : Nat) ∧ k + k2 = n ∧ v8 = .bool (freeP g dn i k) ∧ W = wo)
        case atStart => exact ⟨0, rfl, by omega, by rw [freeP_zero], rfl⟩
        case round =>
          obtain ⟨k, rfl, hkk, rfl, rfl⟩ := hrel
          clear yd
          by_cases hkn : k < n
          · obtain ⟨y1, y2, _⟩ := hM.out.cell (a := i) (v := k) hil (Nat.le_refl _) hkn
            obtain ⟨y3, y4, _⟩ := hM.out.cell (a := k) (v := i) hkn (Nat.le_refl _) hil
            have y5 := hdn.out.cell_ (rowT_get dn hkn)
            have hv1 := hmm.out i k hil hkn
            have hv2 := hmm.out k i hkn hil
            cases hm1 : mm i k with
            | false =>
              have hP : freeP g dn i (k + 1) = freeP g dn i k := freeP_keep fun h _ => by rw [hv1.2 h] at hm1; cases hm1
              rw [hm1] at y2
              generalize freeP g dn i k = p0 at *
              replace hv1 := Lib.hid hv1
              replace hv2 := Lib.hid hv2
              replace hm1 := Lib.hid hm1
              replace hP := Lib.hid hP
              go_wp2_with fail
              go_roundg (gk - 1)
              case measure => omega
              case rel => exact ⟨k + 1, by go_num, by omega, by rw [hP.out], rfl⟩
            | true =>
              rw [hm1] at y2
              cases hm2 : mm k i with
              | true =>
                have hP : freeP g dn i (k + 1) = freeP g dn i k := freeP_keep fun _ h => absurd (hv2.1 hm2) h
                rw [hm2] at y4
                generalize freeP g dn i k = p0 at *
                replace hv1 := Lib.hid hv1
                replace hv2 := Lib.hid hv2
                replace hm1 := Lib.hid hm1
                replace hP := Lib.hid hP
                go_wp2_with fail
                go_roundg (gk - 1)
                case measure => omega
                case rel => exact ⟨k + 1, by go_num, by omega, by rw [hP.out], rfl⟩
              | false =>
                rw [hm2] at y4
                have hnb : ¬ TC g k i := fun h => by rw [hv2.2 h] at hm2; cases hm2
                cases hdk : dn k with
                | true =>
                  have hP : freeP g dn i (k + 1) = freeP g dn i k := freeP_keep fun _ _ => hdk
                  rw [hdk] at y5
                  generalize freeP g dn i k = p0 at *
                  replace hv1 := Lib.hid hv1
                  replace hv2 := Lib.hid hv2
                  replace hm1 := Lib.hid hm1
                  replace hP := Lib.hid hP
                  go_wp2_with fail
                  go_roundg (gk - 1)
                  case measure => omega
                  case rel => exact ⟨k + 1, by go_num, by omega, by rw [hP.out], rfl⟩
                | false =>
                  have hP : freeP g dn i (k + 1) = false := freeP_no (hv1.1 hm1) hnb hdk
                  rw [hdk] at y5
                  generalize freeP g dn i k = p0 at *
                  replace hv1 := Lib.hid hv1
                  replace hv2 := Lib.hid hv2
                  replace hm1 := Lib.hid hm1
                  replace hP := Lib.hid hP
                  go_wp2_with fail
                  go_roundg (gk - 1)
                  case measure => omega
                  case rel => exact ⟨k + 1, by go_num, by omega, by rw [hP.out], rfl⟩
          · obtain rfl : k = n := by omega
            have hff : freeP g dn i k = true ↔ Free g (fun v => dn v = true) i := by rw [← hgl.out]; exact freeP_full (by rw [hgl.out]; exact hil)
            cases hfp : freeP g dn i k with
            | true =>
              have hny := NextAt.yes (hff.1 hfp)
              replace hff := Lib.hid hff
              replace hfp := Lib.hid hfp
              replace hny := Lib.hid hny
              go_wp2_with fail
              go_roundg i
              case measure => omega
              case rel => exact ⟨_, _, rfl, by omega, by omega, rfl, hny.out, rfl⟩
            | false =>
              have hno := hnx.out.no (fun h => by rw [hff.2 h] at hfp; cases hfp)
              replace hff := Lib.hid hff
              replace hfp := Lib.hid hfp
              replace hno := Lib.hid hno
              go_wp2_with fail
              go_roundg i
              case measure => omega
              case rel => exact ⟨_, _, rfl, by omega, by omega, rfl, hno.out, rfl⟩
end Go.Proofs.Ytenlpklgpcnfiaa
