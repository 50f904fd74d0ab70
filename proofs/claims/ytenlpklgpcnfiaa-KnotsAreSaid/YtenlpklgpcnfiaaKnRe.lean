/-
  knots.Reach: the places that a place reaches.
-/
import Derived.Test.YtenlpklgpcnfiaaKnM
import Derived.Deep.LoopGhost
namespace Go.Proofs.Ytenlpklgpcnfiaa
set_option linter.unusedVariables false
open Go.RowKit
theorem snoc_or' {α : Type} (l : List α) : l = [] ∨ ∃ L x, l = L ++ [x] := by
  rcases Nat.eq_zero_or_pos l.length with h | h
  · exact .inl (List.eq_nil_of_length_eq_zero h)
  · have hne : l ≠ [] := fun e => by rw [e] at h; cases h
    exact .inr ⟨l.dropLast, l.getLast hne, (List.dropLast_concat_getLast hne).symm⟩
open Classical in
noncomputable def reachL (g : List (List Int)) (f : Nat) : List Nat := (List.range g.length).filter fun k => decide (TC g f k)
open Classical in
theorem mem_reachL {g : List (List Int)} {f k : Nat} : k ∈ reachL g f ↔ TC g f k := by
  unfold reachL
  rw [List.mem_filter, List.mem_range, decide_eq_true_iff]
  exact ⟨fun h => h.2, fun h => ⟨h.lt, h⟩⟩
def unS (n : Nat) (s : Nat → Bool) : Nat := (List.range n).countP fun v => !s v
theorem unS_upd {s : Nat → Bool} {k : Nat} (hs : s k = false) : ∀ n, k < n → unS n (upd s k true) + 1 = unS n s
  | 0, h => by omega
  | n + 1, h => by
    unfold unS
    rw [List.range_succ, List.countP_append, List.countP_append, List.countP_singleton, List.countP_singleton]
    by_cases e : k = n
    · subst e
      have : (List.range k).countP (fun v => !upd s k true v) = (List.range k).countP (fun v => !s v) := by
        refine List.countP_congr fun v hv => ?_
        rw [List.mem_range] at hv
        rw [upd_ne _ _ (by omega)]
      rw [this, upd_self, hs]
      simp
    · have ih := unS_upd hs n (by omega)
      unfold unS at ih
      rw [upd_ne s true (show n ≠ k by omega)]
      omega
theorem unS_all (n : Nat) : unS n (fun _ => false) = n := by
  unfold unS
  have : (List.range n).countP (fun _ => !false) = (List.range n).length := by rw [List.countP_eq_length]; exact fun _ _ => rfl
  rw [this, List.length_range]
def pickI (s : Nat → Bool) (i : Nat) : List Nat := (List.range i).filter s
theorem pickI_succ (s : Nat → Bool) (i : Nat) : pickI s (i + 1) = if s i = true then pickI s i ++ [i] else pickI s i := by
  unfold pickI
  rw [List.range_succ, List.filter_append]
  by_cases e : s i = true
  · simp [e]
  · have : s i = false := by simpa using e
    simp [this]
theorem pickI_len (s : Nat → Bool) (i : Nat) : (pickI s i).length ≤ i := by
  unfold pickI
  have := List.length_filter_le s (List.range i)
  rwa [List.length_range] at this
def ReachPost (l : List Nat) (w : World) (e : Ending) (w' : World) : Prop := ∃ B c, e = .returned (.slice B l.length c) ∧ OwZ w' B l.length c (zs l) ∧ Fresh w B ∧ Mod none_ w w'
set_option maxRecDepth 100000 in
theorem reach_out (w : World) (A : Option Addr) (n c : Nat) (f : Int) (hf : f < 0 ∨ (n : Int) ≤ f) :
    Calls Try.prog 13 #[.slice A n c, .int .i64 f] w (ReachPost [] w) := by
  go_enter Try.func13, Try.ntmps13
  by_cases h0 : f < 0
  · go_wp2_with fail
    go_ret
    exact ⟨none, 0, rfl, Ow.nil _ _ _, fun a ha => (by cases ha), Mod.refl _ _⟩
  · have h1 : (n : Int) ≤ f := by omega
    go_wp2_with fail
    go_ret
    exact ⟨none, 0, rfl, Ow.nil _ _ _, fun a ha => (by cases ha), Mod.refl _ _⟩
set_option maxRecDepth 100000 in
set_option maxHeartbeats 8000000 in
theorem reach_ok (w : World) (A : Option Addr) (n c : Nat) (ss : List SV) (g : List (List Int)) (hg : RdG w A n ss g) (hn : n ≤ 1000000) (f : Nat) (hf : f < n) :
    Calls Try.prog 13 #[.slice A n c, .int .i64 (f : Int)] w (ReachPost (reachL g f) w) := by
  have hgl := hg.len
  have hmk := fun W => make_run (P := Try.prog) W 23 4 _ 1 n Try.underlying23 boolinfo rfl (by omega) (by omega)
  have hb0 : Blk ((w.alloc (.cells (madeCells #[.bool false] n) 4)).alloc (.cells #[.int .i64 (f : Int)] 3)) w.heap.size 4 (rowT n fun _ => false) := by
    rw [← made_rowT]; exact (Blk.new w _ _).alloc _
  have hd0 := dfs_start (g := g) (f := f) (by rw [hgl]; exact hf)
  have ho0 : OwZ ((w.alloc (.cells (madeCells #[.bool false] n) 4)).alloc (.cells #[.int .i64 (f : Int)] 3)) (some ⟨w.heap.size + 1, 0, none⟩) 1 1 (zs [f]) := by
    have := Ow.new (w.alloc (.cells (madeCells #[.bool false] n) 4)) 3 1 1 #[.int .i64 (f : Int)] (by decide) rfl
    simpa [OwZ, zs, ivs] using this
  have hu0 := unS_all n
  have e1 : decide (n ≤ f) = false := by simp; omega
  have e2 : decide ((f : Int) < 0) = false := by simp
  replace hg := Lib.hid hg
  replace hb0 := Lib.hid hb0
  replace hd0 := Lib.hid hd0
  replace ho0 := Lib.hid ho0
  replace hgl := Lib.hid hgl
  replace hu0 := Lib.hid hu0
  go_enter Try.func13, Try.ntmps13
  go_wp2_with fail
  go_loopg [6] (2 * n + 1) (fun k v wr => ∃ T tc L s, v = .slice T L.length tc ∧ Blk wr w.heap.size 4 (rowT n s) ∧ OwZ wr T L.length tc (zs L) ∧ Fresh w T ∧ Mod none_ w wr ∧ Dfs g f s L none ∧ 2 * unS n s + L.length ≤ k ∧ L.length + unS n s ≤ n + 1)
  case atStart =>
    refine ⟨_, 1, [f], _, rfl, hb0.out, ho0.out, (fun a ha => by cases ha; simp), ((Mod.refl none_ w).alloc _).alloc _, hd0.out, ?_, ?_⟩
    · rw [hu0.out]; simp
    · rw [hu0.out]; simp; omega
  case round =>
    obtain ⟨T, tc, L, s, rfl, hb, ho, hfT, hm, hd, hk, hl⟩ := hrel
    rcases snoc_or' L with rfl | ⟨L0, i, rfl⟩
    · have hend := dfs_end hd
      replace hb := Lib.hid hb
      replace ho := Lib.hid ho
      replace hfT := Lib.hid hfT
      replace hm := Lib.hid hm
      replace hd := Lib.hid hd
      replace hk := Lib.hid hk
      replace hl := Lib.hid hl
      replace hend := Lib.hid hend
      go_wp2_with fail
      go_loopg [10, 74] n (fun k v10 v wr2 => ∃ i B c', v = .int .i64 (i : Nat) ∧ i + k = n ∧ v10 = .slice B (pickI s i).length c' ∧ OwZ wr2 B (pickI s i).length c' (zs (pickI s i)) ∧ Fresh w B ∧ Mod none_ w wr2 ∧ Blk wr2 w.heap.size 4 (rowT n s))
      case atStart => exact ⟨0, none, 0, rfl, by omega, rfl, Ow.nil _ _ _, fun a ha => (by cases ha), hm.out, hb.out⟩
      case round =>
        obtain ⟨i, B, c', rfl, hik, rfl, ho2, hf2, hm2, hb2⟩ := hrel
        by_cases hlt : i < n
        · have x1 := hb2.cell_ (rowT_get s hlt)
          have hpl := pickI_len s i
          have hpx := pickI_succ s i
          have hBb : ¬ fp B w.heap.size := Ow.ne_blk ho2 hb2 (by decide)
          cases hsi : s i with
          | true =>
            rw [hsi] at x1
            rw [if_pos hsi] at hpx
            generalize hpn : (pickI s i).length = pn at *
            replace ho2 := Lib.hid ho2
            replace hf2 := Lib.hid hf2
            replace hm2 := Lib.hid hm2
            replace hb2 := Lib.hid hb2
            replace hpx := Lib.hid hpx
            replace hpn := Lib.hid hpn
            replace hBb := Lib.hid hBb
            go_wp2_with (at_builtin; go_loud (refine appZ rfl (.tmp 80) (.tmp 82) rfl rfl (Ow.mod0 ho2.out ((Mod.refl none_ _).alloc _)) rfl (rdi_one _ _ (i : Int)) (by omega) ?_; intro B2 c2 w5 ho5 hm5 hB5; replace ho5 := Lib.hid ho5; replace hm5 := Lib.hid hm5; replace hB5 := Lib.hid hB5))
            go_roundg (gk - 1)
            case measure => omega
            case rel =>
              have hlen : (pickI s (i + 1)).length = pn + 1 := by rw [hpx.out, List.length_append, hpn.out]; rfl
              have hm3 := hm2.out.alloc (.cells #[.int .i64 (i : Int)] 3)
              refine ⟨i + 1, B2, c2, by go_num, by omega, by rw [hlen], ?_, Fresh.app hf2.out hm3.size hB5.out, hm3.app hf2.out hm5.out, (hb2.out.alloc _).mod hm5.out hBb.out⟩
              rw [hlen, hpx.out, zs_app]
              exact ho5.out
          | false =>
            rw [hsi] at x1
            rw [if_neg (by rw [hsi]; simp)] at hpx
            replace ho2 := Lib.hid ho2
            replace hf2 := Lib.hid hf2
            replace hm2 := Lib.hid hm2
            replace hb2 := Lib.hid hb2
            replace hpx := Lib.hid hpx
            go_wp2_with fail
            go_roundg (gk - 1)
            case measure => omega
            case rel => exact ⟨i + 1, B, c', by go_num, by omega, by rw [hpx.out], by rw [hpx.out]; exact ho2.out, hf2.out, hm2.out, hb2.out⟩
        · obtain rfl : i = n := by omega
          have hpe : pickI s i = reachL g f := by
            classical
            unfold pickI reachL
            rw [hgl.out]
            refine List.filter_congr fun k _ => ?_
            rw [Bool.eq_iff_iff, hend.out k, decide_eq_true_iff]
          rw [hpe] at ho2 ⊢
          replace ho2 := Lib.hid ho2
          replace hf2 := Lib.hid hf2
          replace hm2 := Lib.hid hm2
          replace hb2 := Lib.hid hb2
          replace hpe := Lib.hid hpe
          go_wp2_with fail
          go_ret
          exact ⟨B, c', rfl, ho2.out, hf2.out, hm2.out⟩
    · obtain ⟨hd1, hin, hri⟩ := dfs_pop hd
      rw [hgl.out] at hin
      obtain ⟨b, o, B, kk, cc, l, hA, hc1, hgi, hrd, hkc, hkb⟩ := RdG.get (hg.out.mod0 hm) hin
      subst hA
      have hll := hrd.len
      have hL1 : (L0 ++ [i]).length = L0.length + 1 := by simp
      have hrd0 : RdI w B kk l := by
        obtain ⟨b', o', B', kk', cc', l', hA', hc', hgi', hrd', _, _⟩ := RdG.get hg.out hin
        cases hA'
        have := hm.cell_some hc' (fun h => h)
        rw [hc1] at this
        cases this
        rw [hgi] at hgi'
        cases hgi'
        exact hrd'
      have hpop : OwZ wr T L0.length tc (zs L0) := by
        have := Ow.take_ ho (k := L0.length) (by simp)
        have e : (ivs (zs (L0 ++ [i]))).take (L0.length * 1) = ivs (zs L0) := by simp [zs, ivs]
        rw [e] at this
        exact this
      obtain ⟨gT, cur, hT, _⟩ := Ow.form ho (by simp)
      have ct : wr.cell? ⟨gT, L0.length, none⟩ = some (.int .i64 (i : Int)) := by
        rw [Ow.cell_ ho hT L0.length (by simp)]
        simp [zs, ivs]
      have htc : L0.length + 1 ≤ tc := by have := ho.2.1; rw [hL1] at this; exact this
      subst hT
      rw [hL1] at hk hl ⊢
      have hLb : L0.length ≤ 1000001 := by omega
      generalize hm0 : L0.length = m0 at *
      replace hb := Lib.hid hb
      replace ho := Lib.hid ho
      replace hfT := Lib.hid hfT
      replace hm := Lib.hid hm
      replace hd := Lib.hid hd
      replace hd1 := Lib.hid hd1
      replace hri := Lib.hid hri
      replace hgi := Lib.hid hgi
      replace hrd := Lib.hid hrd
      replace hkc := Lib.hid hkc
      replace hll := Lib.hid hll
      replace hrd0 := Lib.hid hrd0
      replace hpop := Lib.hid hpop
      replace hm0 := Lib.hid hm0
      go_wp2_with fail
      go_loopg [6, 45] kk (fun k2 v6 v wr2 => ∃ e T tc L s', v = .int .i64 (e : Nat) ∧ e + k2 = kk ∧ v6 = .slice T L.length tc ∧ Blk wr2 w.heap.size 4 (rowT n s') ∧ OwZ wr2 T L.length tc (zs L) ∧ Fresh w T ∧ Mod none_ w wr2 ∧ Dfs g f s' L (some i) ∧ 2 * unS n s' + L.length ≤ 2 * unS n s + m0 ∧ L.length + unS n s' ≤ n + 1 ∧ ∀ j k : Nat, j < e → l[j]? = some (k : Int) → k < n → s' k = true)
      case atStart => exact ⟨0, _, tc, L0, s, rfl, by omega, by rw [hm0.out], hb.out, by rw [hm0.out]; exact hpop.out, hfT.out, hm.out, hd1.out, by rw [hm0.out]; exact Nat.le_refl _, by rw [hm0.out]; omega, fun j k h => absurd h (Nat.not_lt_zero j)⟩
      case round =>
        obtain ⟨e, T, tc, L, s', rfl, hek, rfl, hb, ho, hfT, hm, hd, hk2, hl2, hse⟩ := hrel
        by_cases hle : e < kk
        · obtain ⟨b2, o2, hB2, hxl, hx0⟩ := rdi_get (Rd.mod0 hrd0.out hm) hle
          subst hB2
          have hx : l[e]? = some l[e] := List.getElem?_eq_getElem hxl
          generalize l[e] = x at hx hx0
          have hsk : (∀ k : Nat, x = (k : Int) → k < n → s' k = true) → Hid (∀ j k : Nat, j < e + 1 → l[j]? = some (k : Int) → k < n → s' k = true) := fun h => Lib.hid (fun j k hj h1 h2 => by
            by_cases e1 : j = e
            · subst e1; rw [hx] at h1; cases h1; exact h k rfl h2
            · exact hse j k (by omega) h1 h2)
          by_cases hneg : x < 0
          · have hs2 := hsk (fun k h1 _ => by omega)
            have hd1 : ¬ (0 ≤ x) := by omega
            clear hsk
            replace hb := Lib.hid hb
            replace ho := Lib.hid ho
            replace hfT := Lib.hid hfT
            replace hm := Lib.hid hm
            replace hd := Lib.hid hd
            replace hk2 := Lib.hid hk2
            replace hl2 := Lib.hid hl2
            replace hse := Lib.hid hse
            replace hx := Lib.hid hx
            go_wp2_with fail
            go_roundg (gk - 1)
            case measure => omega
            case rel => exact ⟨e + 1, T, tc, L, s', by go_num, by omega, rfl, hb.out, ho.out, hfT.out, hm.out, hd.out, hk2.out, hl2.out, hs2.out⟩
          · obtain ⟨k, rfl⟩ : ∃ k : Nat, x = (k : Int) := ⟨x.toNat, by omega⟩
            have hd1 : (0 : Int) ≤ (k : Int) := by omega
            by_cases hkn : k < n
            · have hd2 : (k : Int) < (n : Int) := by omega
              have xs := hb.cell_ (rowT_get s' hkn)
              have zs' := hb.frozen k
              cases hsk2 : s' k with
              | true =>
                have hs2 := hsk (fun j h1 _ => by obtain rfl : j = k := (by omega); exact hsk2)
                rw [hsk2] at xs
                clear hsk
                replace hb := Lib.hid hb
                replace ho := Lib.hid ho
                replace hfT := Lib.hid hfT
                replace hm := Lib.hid hm
                replace hd := Lib.hid hd
                replace hk2 := Lib.hid hk2
                replace hl2 := Lib.hid hl2
                replace hse := Lib.hid hse
                replace hx := Lib.hid hx
                go_wp2_with fail
                go_roundg (gk - 1)
                case measure => omega
                case rel => exact ⟨e + 1, T, tc, L, s', by go_num, by omega, rfl, hb.out, ho.out, hfT.out, hm.out, hd.out, hk2.out, hl2.out, hs2.out⟩
              | false =>
                have hun := unS_upd hsk2 n hkn
                have hpush := dfs_push hd hri.out ⟨l, hgi.out, List.mem_of_getElem? hx, by rw [hgl.out]; exact hkn⟩
                have hs2 : Hid (∀ j k' : Nat, j < e + 1 → l[j]? = some (k' : Int) → k' < n → upd s' k true k' = true) := Lib.hid (fun j k' hj h1 h2 => by
                  by_cases e1 : k' = k
                  · subst e1; exact upd_self _ _ _
                  · rw [upd_ne _ _ e1]
                    refine hse j k' ?_ h1 h2
                    rcases Nat.lt_or_ge j e with h | h
                    · exact h
                    · obtain rfl : j = e := by omega
                      rw [hx] at h1
                      cases h1
                      exact absurd rfl e1)
                rw [hsk2] at xs
                clear hsk
                have hTb : ¬ fp T w.heap.size := Ow.ne_blk ho hb (by decide)
                have hms := (Mod.refl (fun k => k = w.heap.size) wr).setCell (p := ⟨w.heap.size, k, none⟩) (.inl rfl) (.bool true)
                have hb3 := hb.set_ k (.bool true)
                rw [rowT_set] at hb3
                have ho3 : OwZ (wr.setCell ⟨w.heap.size, k, none⟩ (.bool true)) T L.length tc (zs L) := Ow.mod ho hms (fun j hj e => hTb (e ▸ hj))
                have hm3 : Mod none_ w (wr.setCell ⟨w.heap.size, k, none⟩ (.bool true)) := hm.then hms (fun j hj e => by omega)
                generalize hLn : L.length = ln at *
                have hlb : ln ≤ 1000001 := by omega
                replace hb := Lib.hid hb
                replace ho := Lib.hid ho
                replace hfT := Lib.hid hfT
                replace hm := Lib.hid hm
                replace hd := Lib.hid hd
                replace hk2 := Lib.hid hk2
                replace hl2 := Lib.hid hl2
                replace hse := Lib.hid hse
                replace hx := Lib.hid hx
                replace hun := Lib.hid hun
                replace hpush := Lib.hid hpush
                replace hTb := Lib.hid hTb
                replace hms := Lib.hid hms
                replace hb3 := Lib.hid hb3
                replace ho3 := Lib.hid ho3
                replace hm3 := Lib.hid hm3
                replace hLn := Lib.hid hLn
                go_wp2_with (at_builtin; go_loud (refine appZ rfl (.tmp 67) (.tmp 69) rfl rfl (Ow.mod0 ho3.out ((Mod.refl none_ _).alloc _)) rfl (show RdI _ _ 1 [(k : Int)] from rdi_one' _ _ _ (by simp [World.setCell]) _) (by omega) ?_; intro T5 c5 w5 ho5 hm5 hT5; replace ho5 := Lib.hid ho5; replace hm5 := Lib.hid hm5; replace hT5 := Lib.hid hT5))
                go_roundg (gk - 1)
                case measure => omega
                case rel =>
                  have hlen : (L ++ [k]).length = ln + 1 := by rw [List.length_append, hLn.out]; rfl
                  have hm4 := hm3.out.alloc (.cells #[.int .i64 (k : Int)] 3)
                  refine ⟨e + 1, T5, c5, L ++ [k], upd s' k true, by go_num, by omega, by rw [hlen], (hb3.out.alloc _).mod hm5.out hTb.out, ?_, Fresh.app hfT.out hm4.size hT5.out, hm4.app hfT.out hm5.out, hpush.out, ?_, ?_, hs2.out⟩
                  · rw [hlen, zs_app]; exact ho5.out
                  · have := hun.out; have := hk2.out; rw [hlen]; omega
                  · have := hun.out; have := hl2.out; rw [hlen]; omega
            · have hs2 := hsk (fun j h1 h2 => by omega)
              have hd2 : ¬ ((k : Int) < (n : Int)) := by omega
              clear hsk
              replace hb := Lib.hid hb
              replace ho := Lib.hid ho
              replace hfT := Lib.hid hfT
              replace hm := Lib.hid hm
              replace hd := Lib.hid hd
              replace hk2 := Lib.hid hk2
              replace hl2 := Lib.hid hl2
              replace hse := Lib.hid hse
              replace hx := Lib.hid hx
              go_wp2_with fail
              go_roundg (gk - 1)
              case measure => omega
              case rel => exact ⟨e + 1, T, tc, L, s', by go_num, by omega, rfl, hb.out, ho.out, hfT.out, hm.out, hd.out, hk2.out, hl2.out, hs2.out⟩
        · obtain rfl : e = kk := by omega
          have hdn := dfs_done hd (fun k ⟨l', h1, h2, h3⟩ => by
            rw [hgi.out] at h1
            cases h1
            rw [hgl.out] at h3
            obtain ⟨j, hj, hjk⟩ := List.getElem_of_mem h2
            exact hse j k (by rw [← hll.out]; exact hj) (by rw [List.getElem?_eq_getElem hj, hjk]) h3)
          replace hb := Lib.hid hb
          replace ho := Lib.hid ho
          replace hfT := Lib.hid hfT
          replace hm := Lib.hid hm
          replace hd := Lib.hid hd
          replace hse := Lib.hid hse
          replace hdn := Lib.hid hdn
          go_wp2_with fail
          go_roundg (2 * unS n s' + L.length)
          case measure => omega
          case rel => exact ⟨T, tc, L, s', rfl, hb.out, ho.out, hfT.out, hm.out, hdn.out, Nat.le_refl _, hl2⟩
end Go.Proofs.Ytenlpklgpcnfiaa
