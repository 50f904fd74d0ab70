/-
  KnotsLong: the walk.
-/
import Derived.Test.YtenlpklgpcnfiaaKnBk
import Derived.Test.YtenlpklgpcnfiaaKnLgP
namespace Go.Proofs.Ytenlpklgpcnfiaa
set_option linter.unusedVariables false
open Go.RowKit
structure LMem (w0 w : World) (M n : Nat) (sf : Nat → SV) (l : Nat → List Int) : Prop where
  m0 : Mod none_ w0 w
  fM : w0.heap.size ≤ M
  bM : Blk w M 28 (rowS n sf)
  row : ∀ a, a < n → RdI w (sf a).a (sf a).n (l a) ∧ (sf a).n ≤ (sf a).c ∧ (sf a).n ≤ 140737488355328
theorem LMem.put {w0 w : World} {M n : Nat} {sf : Nat → SV} {l : Nat → List Int} (h : LMem w0 w M n sf l) {a k : Nat} {row : List Int} (hk : row.length = k) (hk2 : k ≤ 3) :
    LMem w0 ((w.alloc (.cells (ivs row).toArray 3)).setCell ⟨M, a, none⟩ (.slice (some ⟨w.heap.size, 0, none⟩) k k)) M n (upd sf a ⟨some ⟨w.heap.size, 0, none⟩, k, k⟩) (upd l a row) := by
  have hR : RdI (w.alloc (.cells (ivs row).toArray 3)) (some ⟨w.heap.size, 0, none⟩) k row := by
    have := rdn w 3 1 k w.heap.size (ivs row).toArray (0, 0) rfl (by simp [ivs, hk])
    simpa [RdI] using this
  have hB := h.bM.alloc (.cells (ivs row).toArray 3)
  have hr : ∀ b, b < n → RdI (w.alloc (.cells (ivs row).toArray 3)) (sf b).a (sf b).n (l b) := fun b hb => Rd.mod0 (h.row b hb).1 ((Mod.refl none_ _).alloc _)
  have h0 := h.m0.alloc (.cells (ivs row).toArray 3)
  generalize w.alloc (.cells (ivs row).toArray 3) = W at *
  have hm : Mod (fun j => j = M) W (W.setCell ⟨M, a, none⟩ (.slice (some ⟨w.heap.size, 0, none⟩) k k)) := (Mod.refl (fun j => j = M) W).setCell (p := ⟨M, a, none⟩) (.inl rfl) _
  refine ⟨h0.then hm fun j hj e => by have := h.fM; omega, h.fM, ?_, fun b hb => ?_⟩
  · have := hB.set_ a (.slice (some ⟨w.heap.size, 0, none⟩) k k)
    rw [rowS_set n sf a ⟨some ⟨w.heap.size, 0, none⟩, k, k⟩] at this
    exact this
  · by_cases e : b = a
    · subst e
      rw [upd_self, upd_self]
      exact ⟨Rd.mod' hR hm fun h0 j hj e => rdi_rowS hR h0 hB (e ▸ hj), Nat.le_refl _, by dsimp only; omega⟩
    · rw [upd_ne _ _ e, upd_ne _ _ e]
      exact ⟨Rd.mod' (hr b hb) hm fun h0 j hj e => rdi_rowS (hr b hb) h0 hB (e ▸ hj), (h.row b hb).2⟩
theorem LMem.rdg {w0 w : World} {M n : Nat} {sf : Nat → SV} {l : Nat → List Int} (h : LMem w0 w M n sf l) : RdG w (some ⟨M, 0, none⟩) n ((List.range n).map sf) ((List.range n).map l) := by
  refine ⟨⟨by simp, fun _ => ⟨_, rfl, fun j u hu => ?_⟩⟩, by simp, fun i s l' hs hl => ?_⟩
  · rw [add_lit, h.bM.cell]
    unfold rowS
    rw [List.map_map] at hu
    simpa using hu
  · rw [List.getElem?_map] at hs hl
    by_cases hi : i < n
    · rw [List.getElem?_range hi] at hs hl
      cases hs; cases hl
      exact ⟨(h.row i hi).1, (h.row i hi).2.1, (h.row i hi).2.2⟩
    · rw [List.getElem?_eq_none (by simpa using hi)] at hs
      cases hs
def partR (n i : Nat) : Nat → List Int := fun a => if a < i then rowL n false a else []
theorem partR_succ {n i : Nat} : upd (partR n i) i (rowL n false i) = partR n (i + 1) := by
  funext a
  unfold partR
  by_cases e : a = i
  · subst e; rw [upd_self, if_pos (by omega)]
  · rw [upd_ne _ _ e]
    by_cases h : a < i
    · rw [if_pos h, if_pos (by omega)]
    · rw [if_neg h, if_neg (by omega)]
theorem partR_full {n : Nat} (hn : 0 < n) : (List.range n).map (partR n (n - 1)) = longG n false := by
  unfold longG
  refine List.map_congr_left fun a ha => ?_
  rw [List.mem_range] at ha
  unfold partR
  by_cases h : a < n - 1
  · rw [if_pos h]
  · rw [if_neg h]
    unfold rowL
    rw [if_neg (by omega)]
    rfl
theorem partR_ring {n : Nat} (hn : 0 < n) : (List.range n).map (upd (partR n (n - 1)) (n - 1) [0]) = longG n true := by
  unfold longG
  refine List.map_congr_left fun a ha => ?_
  rw [List.mem_range] at ha
  by_cases h : a = n - 1
  · subst h
    rw [upd_self]
    unfold rowL
    rw [if_neg (by omega)]
    rfl
  · rw [upd_ne _ _ h]
    unfold partR rowL
    rw [if_pos (by omega), if_pos (by omega), if_pos (by omega)]
set_option maxRecDepth 100000 in
set_option maxHeartbeats 8000000 in
theorem knotsLong_walk (w : World) (n0 : Int) (ring : Bool) :
    Calls Try.prog 5 #[.int .i64 n0, .bool ring] w fun e w' => e = .returned (.bool true) ∧ Below w.heap.size w w' := by
  have k0 := Lib.hid (lives_ok w)
  obtain ⟨k, hk, hku⟩ := umod n0 290 (by omega) (by omega)
  obtain ⟨n, hn⟩ : ∃ n : Nat, n = k + 2 := ⟨_, rfl⟩
  have hn2 : 2 ≤ n := by omega
  have hn3 : n ≤ 291 := by omega
  go_enter Try.func5, Try.ntmps5
  go_wp2_with fail
  with_reducible refine k0.out.mono ?_
  rintro e w1 ⟨rfl, hm1⟩
  dsimp only
  replace hm1 := Lib.hid hm1
  have en : ((k : Int) + 2) = (n : Int) := by omega
  have hmk := fun W => make_run (P := Try.prog) W 22 28 _ 24 n Try.underlying22 slginfo rfl (by omega) (by omega)
  have hl0 : LMem w1 (w1.alloc (.cells (madeCells #[.slice none 0 0] n) 28)) w1.heap.size n (fun _ => ⟨none, 0, 0⟩) (partR n 0) := by
    refine ⟨(Mod.refl none_ w1).alloc _, Nat.le_refl _, by rw [made_rowS]; exact Blk.new w1 _ _, fun a _ => ⟨?_, Nat.le_refl _, by dsimp only; omega⟩⟩
    exact (Ow.nil _ 3 1).rd
  replace hl0 := Lib.hid hl0
  have hmk2 := hmk
  have en2 : (2 + (k : Int)) = (n : Int) := by omega
  rw [← en] at hmk
  rw [← en2] at hmk2
  replace en := Lib.hid en
  replace en2 := Lib.hid en2
  replace hn := Lib.hid hn
  go_wp2_with fail
  first | simp only [en2.out] | simp only [en.out]
  clear hk hku hn en en2 hmk hmk2
  go_loopg [6] (n - 1) (fun k v wr => ∃ i sf, v = .int .i64 (i : Nat) ∧ i + k = n - 1 ∧ LMem w1 wr w1.heap.size n sf (partR n i))
  case atStart => exact ⟨0, _, rfl, by omega, hl0.out⟩
  case round =>
    obtain ⟨i, sf, rfl, hik, hl⟩ := hrel
    by_cases hlt : i < n - 1
    · have hlp := hl.put (a := i) (k := 3) (row := rowL n false i) (by unfold rowL; rw [if_pos (by omega)]; rfl) (by omega)
      have xA := fun o => (hl.bM.alloc o).cell_ (rowS_get sf (show i < n by omega))
      have xF := fun o => (hl.bM.alloc o).frozen i
      rw [partR_succ] at hlp
      unfold rowL at hlp
      rw [if_pos (by omega)] at hlp
      replace hl := Lib.hid hl
      replace hlp := Lib.hid hlp
      go_wp2_with fail
      go_roundg (gk - 1)
      case measure => omega
      case rel => exact ⟨i + 1, _, by go_num, by omega, hlp.out⟩
    · obtain rfl : i = n - 1 := by omega
      have hln := hl.put (a := n - 1) (k := 1) (row := [0]) rfl (by omega)
      have xA := fun o => (hl.bM.alloc o).cell_ (rowS_get sf (show n - 1 < n by omega))
      have xF := fun o => (hl.bM.alloc o).frozen (n - 1)
      cases ring
      · have hG := hl.rdg
        rw [partR_full (by omega)] at hG
        have kK := Lib.hid (knots_ok wr _ n n _ _ hG (by omega))
        replace hl := Lib.hid hl
        replace hln := Lib.hid hln
        replace hG := Lib.hid hG
        clear xA xF
        go_wp2_with fail
        with_reducible refine kK.out.mono ?_
        rintro e w3 ⟨ks, hks, G, c, ss, rfl, hO, _, hm3⟩
        dsimp only
        obtain rfl := kseq_one hks (kseq_row n)
        rw [show ((List.range n).map fun a => [n - 1 - a]).length = n by simp] at hO ⊢
        have hm13 := hl.out.m0.trans hm3
        have kR := Lib.hid (fun W (h : Mod none_ w3 W) => reach_ok W _ n n _ _ (hG.out.mod0 (hm3.trans h)) (by omega) 0 (by omega))
        replace hO := Lib.hid hO
        replace hm3 := Lib.hid hm3
        replace hm13 := Lib.hid hm13
        replace hks := Lib.hid hks
        go_wp2_with fail
        go_loopg [8] n (fun k v wr2 => ∃ i, v = .int .i64 (i : Nat) ∧ i + k = n ∧ Mod none_ w3 wr2)
        case atStart => exact ⟨0, rfl, by omega, Mod.refl _ _⟩
        case round =>
          obtain ⟨i, rfl, hik2, hmr⟩ := hrel
          by_cases hi : i < n
          · obtain ⟨b, o, B, cc, K, hH, hc0, hK, hrK⟩ := ow_knot hO.out hi
            rw [List.getElem?_map, List.getElem?_range hi] at hK
            cases hK
            subst hH
            obtain ⟨b4, o4, x, hB4, hxm, hxc0, hx0⟩ := rdz_get hrK (j := 0) (by simp)
            subst hB4
            cases hx0
            have hc1 := hmr.cell_some hc0 (fun h => h)
            have hc2 := hmr.cell_some hxc0 (fun h => h)
            clear hc0 hxc0
            replace hrK := Lib.hid hrK
            replace hxm := Lib.hid hxm
            replace hmr := Lib.hid hmr
            simp only [List.length_cons, List.length_nil, Nat.zero_add, Nat.add_zero] at hc1 hc2
            rw [show ((n - 1 - i : Nat) : Int) = (n : Int) - 1 - (i : Int) by omega] at hc2
            go_wp2_with fail
            go_roundg (gk - 1)
            case measure => omega
            case rel => exact ⟨i + 1, by go_num, by omega, hmr.out⟩
          · obtain rfl : i = n := by omega
            have kR2 := kR.out wr hmr
            rw [show ((0 : Nat) : Int) = 0 from rfl] at kR2
            have kR2 := Lib.hid kR2
            replace hmr := Lib.hid hmr
            go_wp2_with fail
            refine kR2.out.mono ?_
            rintro e w5 ⟨B, c5, rfl, ho, _, hm5⟩
            dsimp only
            rw [reach_row (by omega)] at ho ⊢
            have hb := (hm1.out.trans ((hm13.out.trans hmr.out).trans hm5)).below0
            replace ho := Lib.hid ho
            replace hm5 := Lib.hid hm5
            replace hb := Lib.hid hb
            go_wp2_with fail
            go_ret
            exact ⟨by simp; try omega, hb.out⟩
      · have hG := hln.rdg
        rw [partR_ring (by omega)] at hG
        have kK := Lib.hid (knots_ok _ _ n n _ _ hG (by omega))
        replace hl := Lib.hid hl
        replace hln := Lib.hid hln
        replace hG := Lib.hid hG
        go_wp2_with fail
        refine kK.out.mono ?_
        rintro e w3 ⟨ks, hks, G, c, ss, rfl, hO, _, hm3⟩
        dsimp only
        obtain rfl := kseq_one hks (kseq_ring (by omega))
        rw [show [List.range n].length = 1 from rfl] at hO ⊢
        obtain ⟨b, o, B, cc, K, hH, hc0, hK, hrK⟩ := ow_knot hO (j := 0) (by omega)
        cases hK
        subst hH
        obtain ⟨b4, o4, x, hB4, hxm, hxc0, hx0⟩ := rdz_get hrK (j := 0) (by simp; omega)
        subst hB4
        obtain rfl : x = 0 := by
          obtain ⟨m, rfl⟩ : ∃ m, n = m + 1 := ⟨n - 1, by omega⟩
          rw [List.range_succ_eq_map] at hx0
          cases hx0; rfl
        rw [List.length_range] at hc0
        have hbl := (hm1.out.trans (hln.out.m0.trans hm3)).below0
        simp only [Nat.add_zero] at hc0 hxc0
        replace hO := Lib.hid hO
        replace hm3 := Lib.hid hm3
        replace hrK := Lib.hid hrK
        replace hxm := Lib.hid hxm
        replace hx0 := Lib.hid hx0
        replace hks := Lib.hid hks
        replace hbl := Lib.hid hbl
        go_wp2_with fail
        go_ret
        exact ⟨by simp, hbl.out⟩
end Go.Proofs.Ytenlpklgpcnfiaa
