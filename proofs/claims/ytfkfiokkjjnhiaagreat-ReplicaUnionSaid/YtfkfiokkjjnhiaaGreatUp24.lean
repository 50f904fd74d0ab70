import Derived.Test.YtfkfiokkjjnhiaaGreatUp19
import Derived.Deep.LoopGhost
import Derived.Test.YtfkfiokkjjnhiaaGreatUp23
import Derived.Test.YtfkfiokkjjnhiaaGreatUp1
import Derived.Test.YtfkfiokkjjnhiaaGreatRows
import Derived.Test.YtfkfiokkjjnhiaaGreatUp4
import Derived.Test.YtfkfiokkjjnhiaaGreatUp18
set_option linter.unusedVariables false
set_option linter.unusedSimpArgs false
set_option maxHeartbeats 16000000
namespace Go.Proofs.YtfkfiokkjjnhiaaGreat.Kn
open Go.RowKit
theorem snoc_or' {α : Type} (l : List α) : l = [] ∨ ∃ L x, l = L ++ [x] := by
 rcases Nat.eq_zero_or_pos l.length with h | h
 ·exact .inl (List.eq_nil_of_length_eq_zero h)
 ·have hne : l ≠ [] := fun e => by rw [e] at h; cases h
  exact .inr ⟨l.dropLast, l.getLast hne, (List.dropLast_concat_getLast hne).symm⟩
open Classical in
noncomputable def reachL (g : List (List Int)) (f : Nat) : List Nat := (List.range g.length).filter fun k => decide (TC g f k)
open Classical in
theorem mem_reachL {g : List (List Int)} {f k : Nat} : k ∈ reachL g f ↔ TC g f k := by
 unfold reachL
 rw [List.mem_filter, List.mem_range, decide_eq_true_iff]
 exact ⟨fun h => h.2, fun h => ⟨h.lt, h⟩⟩
def unS (n : Nat) (s : Nat → Bool) : Nat := (List.range n).countP fun v => !s v
theorem unS_upd {s : Nat → Bool} {k : Nat} (hs : s k = false) : ∀ n, k < n → unS n (upd s k true) + 1 = unS n s
 | 0, h => by omega
 | n + 1, h => by
  unfold unS
  rw [List.range_succ, List.countP_append, List.countP_append, List.countP_singleton, List.countP_singleton]
  by_cases e : k = n
  ·subst e
   have : (List.range k).countP (fun v => !upd s k true v) = (List.range k).countP (fun v => !s v) := by
    refine List.countP_congr fun v hv => ?_
    rw [List.mem_range] at hv
    rw [upd_ne _ _ (by omega)]
   rw [this, upd_self, hs]
   simp
  ·have ih := unS_upd hs n (by omega)
   unfold unS at ih
   rw [upd_ne s true (show n ≠ k by omega)]
   omega
theorem unS_all (n : Nat) : unS n (fun _ => false) = n := by
 unfold unS
 have : (List.range n).countP (fun _ => !false) = (List.range n).length := by rw [List.countP_eq_length]; exact fun _ _ => rfl
 rw [this, List.length_range]
def pickI (s : Nat → Bool) (i : Nat) : List Nat := (List.range i).filter s
theorem pickI_succ (s : Nat → Bool) (i : Nat) : pickI s (i + 1) = if s i = true then pickI s i ++ [i] else pickI s i := by
 unfold pickI
 rw [List.range_succ, List.filter_append]
 by_cases e : s i = true
 ·simp [e]
 ·have : s i = false := by simpa using e
  simp [this]
theorem pickI_len (s : Nat → Bool) (i : Nat) : (pickI s i).length ≤ i := by
 unfold pickI
 have := List.length_filter_le s (List.range i)
 rwa [List.length_range] at this
def ReachPost (l : List Nat) (w : World) (e : Ending) (w' : World) : Prop := ∃ B c, e = .returned (.slice B l.length c) ∧ OwZ w' B l.length c (zs l) ∧ Fresh w B ∧ Mod none_ w w'
set_option maxRecDepth 100000
theorem reach_ok (w : World) (A : Option Addr) (n c : Nat) (ss : List SV) (g : List (List Int)) (hg : RdG w A n ss g) (hn : n ≤ 1000000) (f : Nat) (hf : f < n) :
  Calls Tryz.prog 161 #[.slice A n c, .int .i64 (f : Int)] w (ReachPost (reachL g f) w) := by
 have hgl := hg.len
 have hmk := fun W => make_run (P := Tryz.prog) W 168 4 _ 1 n Tryz.underlying168 boolinfo rfl (by omega) (by omega)
 have hb0 : Blk ((w.alloc (.cells (madeCells #[.bool false] n) 4)).alloc (.cells #[.int .i64 (f : Int)] 3)) w.heap.size 4 (rowT n fun _ => false) := by
  rw [← made_rowT]; exact (Blk.new w _ _).alloc _
 have hd0 := dfs_start (g := g) (f := f) (by rw [hgl]; exact hf)
 have ho0 : OwZ ((w.alloc (.cells (madeCells #[.bool false] n) 4)).alloc (.cells #[.int .i64 (f : Int)] 3)) (some ⟨w.heap.size + 1, 0, none⟩) 1 1 (zs [f]) := by
  have := Ow.new (w.alloc (.cells (madeCells #[.bool false] n) 4)) 3 1 1 #[.int .i64 (f : Int)] (by decide) rfl
  simpa [OwZ, zs, ivs] using this
 have hu0 := unS_all n
 have e1 : decide (n ≤ f) = false := by simp; omega
 have e2 : decide ((f : Int) < 0) = false := by simp
 replace hg := zH hg
 replace hb0 := zH hb0
 replace hd0 := zH hd0
 replace ho0 := zH ho0
 replace hgl := zH hgl
 replace hu0 := zH hu0
 go_enter Tryz.func161, Tryz.ntmps161
 go_wp2_with fail
 go_loopg [6] (2 * n + 1) (fun k v wr => ∃ T tc L s, v = .slice T L.length tc ∧ Blk wr w.heap.size 4 (rowT n s) ∧ OwZ wr T L.length tc (zs L) ∧ Fresh w T ∧ Mod none_ w wr ∧ Dfs g f s L none ∧ 2 * unS n s + L.length ≤ k ∧ L.length + unS n s ≤ n + 1)
 case atStart =>
  refine ⟨_, 1, [f], _, rfl, hb0.out, ho0.out, (fun a ha => by cases ha; simp), ((Mod.refl none_ w).alloc _).alloc _, hd0.out, ?_, ?_⟩
  ·rw [hu0.out]; simp
  ·rw [hu0.out]; simp; omega
 case round =>
  obtain ⟨T, tc, L, s, rfl, hb, ho, hfT, hm, hd, hk, hl⟩ := hrel
  rcases snoc_or' L with rfl | ⟨L0, i, rfl⟩
  ·have hend := dfs_end hd
   replace hb := zH hb
   replace ho := zH ho
   replace hfT := zH hfT
   replace hm := zH hm
   replace hd := zH hd
   replace hk := zH hk
   replace hl := zH hl
   replace hend := zH hend
   go_wp2_with fail
   go_loopg [10, 74] n (fun k v10 v wr2 => ∃ i B c', v = .int .i64 (i : Nat) ∧ i + k = n ∧ v10 = .slice B (pickI s i).length c' ∧ OwZ wr2 B (pickI s i).length c' (zs (pickI s i)) ∧ Fresh w B ∧ Mod none_ w wr2 ∧ Blk wr2 w.heap.size 4 (rowT n s))
   case atStart => exact ⟨0, none, 0, rfl, by omega, rfl, Ow.nil _ _ _, fun a ha => (by cases ha), hm.out, hb.out⟩
   case round =>
    obtain ⟨i, B, c', rfl, hik, rfl, ho2, hf2, hm2, hb2⟩ := hrel
    by_cases hlt : i < n
    ·have x1 := hb2.cell_ (rowT_get s hlt)
     have hpl := pickI_len s i
     have hpx := pickI_succ s i
     have hBb : ¬ fp B w.heap.size := Ow.ne_blk ho2 hb2 (by decide)
     cases hsi : s i with
     | true =>
      rw [hsi] at x1
      rw [if_pos hsi] at hpx
      generalize hpn : (pickI s i).length = pn at *
      replace ho2 := zH ho2
      replace hf2 := zH hf2
      replace hm2 := zH hm2
      replace hb2 := zH hb2
      replace hpx := zH hpx
      replace hpn := zH hpn
      replace hBb := zH hBb
      go_wp2_with (at_builtin; go_loud (refine appZ rfl (.tmp 80) (.tmp 82) rfl rfl (Ow.mod0 ho2.out ((Mod.refl none_ _).alloc _)) rfl (rdi_one _ _ (i : Int)) (by omega) ?_; intro B2 c2 w5 ho5 hm5 hB5; replace ho5 := zH ho5; replace hm5 := zH hm5; replace hB5 := zH hB5))
      go_roundg (gk - 1)
      case measure => omega
      case rel =>
       have hlen : (pickI s (i + 1)).length = pn + 1 := by rw [hpx.out, List.length_append, hpn.out]; rfl
       have hm3 := hm2.out.alloc (.cells #[.int .i64 (i : Int)] 3)
       refine ⟨i + 1, B2, c2, by go_num, by omega, by rw [hlen], ?_, Fresh.app hf2.out hm3.size hB5.out, hm3.app hf2.out hm5.out, (hb2.out.alloc _).mod hm5.out hBb.out⟩
       rw [hlen, hpx.out, zs_app]
       exact ho5.out
     | false =>
      rw [hsi] at x1
      rw [if_neg (by rw [hsi]; simp)] at hpx
      replace ho2 := zH ho2
      replace hf2 := zH hf2
      replace hm2 := zH hm2
      replace hb2 := zH hb2
      replace hpx := zH hpx
      go_wp2_with fail
      go_roundg (gk - 1)
      case measure => omega
      case rel => exact ⟨i + 1, B, c', by go_num, by omega, by rw [hpx.out], by rw [hpx.out]; exact ho2.out, hf2.out, hm2.out, hb2.out⟩
    ·obtain rfl : i = n := by omega
     have hpe : pickI s i = reachL g f := by
      classical
      unfold pickI reachL
      rw [hgl.out]
      refine List.filter_congr fun k _ => ?_
      rw [Bool.eq_iff_iff, hend.out k, decide_eq_true_iff]
     rw [hpe] at ho2 ⊢
     replace ho2 := zH ho2
     replace hf2 := zH hf2
     replace hm2 := zH hm2
     replace hb2 := zH hb2
     replace hpe := zH hpe
     go_wp2_with fail
     go_ret
     exact ⟨B, c', rfl, ho2.out, hf2.out, hm2.out⟩
  ·obtain ⟨hd1, hin, hri⟩ := dfs_pop hd
   rw [hgl.out] at hin
   obtain ⟨b, o, B, kk, cc, l, hA, hc1, hgi, hrd, hkc, hkb⟩ := RdG.get (hg.out.mod0 hm) hin
   subst hA
   have hll := hrd.len
   have hL1 : (L0 ++ [i]).length = L0.length + 1 := by simp
   have hrd0 : RdI w B kk l := by
    obtain ⟨b', o', B', kk', cc', l', hA', hc', hgi', hrd', _, _⟩ := RdG.get hg.out hin
    cases hA'
    have := hm.cell_some hc' (fun h => h)
    rw [hc1] at this
    cases this
    rw [hgi] at hgi'
    cases hgi'
    exact hrd'
   have hpop : OwZ wr T L0.length tc (zs L0) := by
    have := Ow.take_ ho (k := L0.length) (by simp)
    have e : (ivs (zs (L0 ++ [i]))).take (L0.length * 1) = ivs (zs L0) := by simp [zs, ivs]
    rw [e] at this
    exact this
   obtain ⟨gT, cur, hT, _⟩ := Ow.form ho (by simp)
   have ct : wr.cell? ⟨gT, L0.length, none⟩ = some (.int .i64 (i : Int)) := by
    rw [Ow.cell_ ho hT L0.length (by simp)]
    simp [zs, ivs]
   have htc : L0.length + 1 ≤ tc := by have := ho.2.1; rw [hL1] at this; exact this
   subst hT
   rw [hL1] at hk hl ⊢
   have hLb : L0.length ≤ 1000001 := by omega
   generalize hm0 : L0.length = m0 at *
   replace hb := zH hb
   replace ho := zH ho
   replace hfT := zH hfT
   replace hm := zH hm
   replace hd := zH hd
   replace hd1 := zH hd1
   replace hri := zH hri
   replace hgi := zH hgi
   replace hrd := zH hrd
   replace hkc := zH hkc
   replace hll := zH hll
   replace hrd0 := zH hrd0
   replace hpop := zH hpop
   replace hm0 := zH hm0
   go_wp2_with fail
   go_loopg [6, 45] kk (fun k2 v6 v wr2 => ∃ e T tc L s', v = .int .i64 (e : Nat) ∧ e + k2 = kk ∧ v6 = .slice T L.length tc ∧ Blk wr2 w.heap.size 4 (rowT n s') ∧ OwZ wr2 T L.length tc (zs L) ∧ Fresh w T ∧ Mod none_ w wr2 ∧ Dfs g f s' L (some i) ∧ 2 * unS n s' + L.length ≤ 2 * unS n s + m0 ∧ L.length + unS n s' ≤ n + 1 ∧ ∀ j k : Nat, j < e → l[j]? = some (k : Int) → k < n → s' k = true)
   case atStart => exact ⟨0, _, tc, L0, s, rfl, by omega, by rw [hm0.out], hb.out, by rw [hm0.out]; exact hpop.out, hfT.out, hm.out, hd1.out, by rw [hm0.out]; exact Nat.le_refl _, by rw [hm0.out]; omega, fun j k h => absurd h (Nat.not_lt_zero j)⟩
   case round =>
    obtain ⟨e, T, tc, L, s', rfl, hek, rfl, hb, ho, hfT, hm, hd, hk2, hl2, hse⟩ := hrel
    by_cases hle : e < kk
    ·obtain ⟨b2, o2, hB2, hxl, hx0⟩ := rdi_get (Rd.mod0 hrd0.out hm) hle
     subst hB2
     have hx : l[e]? = some l[e] := List.getElem?_eq_getElem hxl
     generalize l[e] = x at hx hx0
     have hsk : (∀ k : Nat, x = (k : Int) → k < n → s' k = true) → Hid (∀ j k : Nat, j < e + 1 → l[j]? = some (k : Int) → k < n → s' k = true) := fun h => zH (fun j k hj h1 h2 => by
      by_cases e1 : j = e
      ·subst e1; rw [hx] at h1; cases h1; exact h k rfl h2
      ·exact hse j k (by omega) h1 h2)
     by_cases hneg : x < 0
     ·have hs2 := hsk (fun k h1 _ => by omega)
      have hd1 : ¬ (0 ≤ x) := by omega
      clear hsk
      replace hb := zH hb
      replace ho := zH ho
      replace hfT := zH hfT
      replace hm := zH hm
      replace hd := zH hd
      replace hk2 := zH hk2
      replace hl2 := zH hl2
      replace hse := zH hse
      replace hx := zH hx
      go_wp2_with fail
      go_roundg (gk - 1)
      case measure => omega
      case rel => exact ⟨e + 1, T, tc, L, s', by go_num, by omega, rfl, hb.out, ho.out, hfT.out, hm.out, hd.out, hk2.out, hl2.out, hs2.out⟩
     ·obtain ⟨k, rfl⟩ : ∃ k : Nat, x = (k : Int) := ⟨x.toNat, by omega⟩
      have hd1 : (0 : Int) ≤ (k : Int) := by omega
      by_cases hkn : k < n
      ·have hd2 : (k : Int) < (n : Int) := by omega
       have xs := hb.cell_ (rowT_get s' hkn)
       have zs' := hb.frozen k
       cases hsk2 : s' k with
       | true =>
        have hs2 := hsk (fun j h1 _ => by obtain rfl : j = k := (by omega); exact hsk2)
        rw [hsk2] at xs
        clear hsk
        replace hb := zH hb
        replace ho := zH ho
        replace hfT := zH hfT
        replace hm := zH hm
        replace hd := zH hd
        replace hk2 := zH hk2
        replace hl2 := zH hl2
        replace hse := zH hse
        replace hx := zH hx
        go_wp2_with fail
        go_roundg (gk - 1)
        case measure => omega
        case rel => exact ⟨e + 1, T, tc, L, s', by go_num, by omega, rfl, hb.out, ho.out, hfT.out, hm.out, hd.out, hk2.out, hl2.out, hs2.out⟩
       | false =>
        have hun := unS_upd hsk2 n hkn
        have hpush := dfs_push hd hri.out ⟨l, hgi.out, List.mem_of_getElem? hx, by rw [hgl.out]; exact hkn⟩
        have hs2 : Hid (∀ j k' : Nat, j < e + 1 → l[j]? = some (k' : Int) → k' < n → upd s' k true k' = true) := zH (fun j k' hj h1 h2 => by
         by_cases e1 : k' = k
         ·subst e1; exact upd_self _ _ _
         ·rw [upd_ne _ _ e1]
          refine hse j k' ?_ h1 h2
          rcases Nat.lt_or_ge j e with h | h
          ·exact h
          ·obtain rfl : j = e := by omega
           rw [hx] at h1
           cases h1
           exact absurd rfl e1)
        rw [hsk2] at xs
        clear hsk
        have hTb : ¬ fp T w.heap.size := Ow.ne_blk ho hb (by decide)
        have hms := (Mod.refl (fun k => k = w.heap.size) wr).setCell (p := ⟨w.heap.size, k, none⟩) (.inl rfl) (.bool true)
        have hb3 := hb.set_ k (.bool true)
        rw [rowT_set] at hb3
        have ho3 : OwZ (wr.setCell ⟨w.heap.size, k, none⟩ (.bool true)) T L.length tc (zs L) := Ow.mod ho hms (fun j hj e => hTb (e ▸ hj))
        have hm3 : Mod none_ w (wr.setCell ⟨w.heap.size, k, none⟩ (.bool true)) := hm.then hms (fun j hj e => by omega)
        generalize hLn : L.length = ln at *
        have hlb : ln ≤ 1000001 := by omega
        replace hb := zH hb
        replace ho := zH ho
        replace hfT := zH hfT
        replace hm := zH hm
        replace hd := zH hd
        replace hk2 := zH hk2
        replace hl2 := zH hl2
        replace hse := zH hse
        replace hx := zH hx
        replace hun := zH hun
        replace hpush := zH hpush
        replace hTb := zH hTb
        replace hms := zH hms
        replace hb3 := zH hb3
        replace ho3 := zH ho3
        replace hm3 := zH hm3
        replace hLn := zH hLn
        go_wp2_with (at_builtin; go_loud (refine appZ rfl (.tmp 67) (.tmp 69) rfl rfl (Ow.mod0 ho3.out ((Mod.refl none_ _).alloc _)) rfl (show RdI _ _ 1 [(k : Int)] from rdi_one' _ _ _ (by simp [World.setCell]) _) (by omega) ?_; intro T5 c5 w5 ho5 hm5 hT5; replace ho5 := zH ho5; replace hm5 := zH hm5; replace hT5 := zH hT5))
        go_roundg (gk - 1)
        case measure => omega
        case rel =>
         have hlen : (L ++ [k]).length = ln + 1 := by rw [List.length_append, hLn.out]; rfl
         have hm4 := hm3.out.alloc (.cells #[.int .i64 (k : Int)] 3)
         refine ⟨e + 1, T5, c5, L ++ [k], upd s' k true, by go_num, by omega, by rw [hlen], (hb3.out.alloc _).mod hm5.out hTb.out, ?_, Fresh.app hfT.out hm4.size hT5.out, hm4.app hfT.out hm5.out, hpush.out, ?_, ?_, hs2.out⟩
         ·rw [hlen, zs_app]; exact ho5.out
         ·have := hun.out; have := hk2.out; rw [hlen]; omega
         ·have := hun.out; have := hl2.out; rw [hlen]; omega
      ·have hs2 := hsk (fun j h1 h2 => by omega)
       have hd2 : ¬ ((k : Int) < (n : Int)) := by omega
       clear hsk
       replace hb := zH hb
       replace ho := zH ho
       replace hfT := zH hfT
       replace hm := zH hm
       replace hd := zH hd
       replace hk2 := zH hk2
       replace hl2 := zH hl2
       replace hse := zH hse
       replace hx := zH hx
       go_wp2_with fail
       go_roundg (gk - 1)
       case measure => omega
       case rel => exact ⟨e + 1, T, tc, L, s', by go_num, by omega, rfl, hb.out, ho.out, hfT.out, hm.out, hd.out, hk2.out, hl2.out, hs2.out⟩
    ·obtain rfl : e = kk := by omega
     have hdn := dfs_done hd (fun k ⟨l', h1, h2, h3⟩ => by
      rw [hgi.out] at h1
      cases h1
      rw [hgl.out] at h3
      obtain ⟨j, hj, hjk⟩ := List.getElem_of_mem h2
      exact hse j k (by rw [← hll.out]; exact hj) (by rw [List.getElem?_eq_getElem hj, hjk]) h3)
     replace hb := zH hb
     replace ho := zH ho
     replace hfT := zH hfT
     replace hm := zH hm
     replace hd := zH hd
     replace hse := zH hse
     replace hdn := zH hdn
     go_wp2_with fail
     go_roundg (2 * unS n s' + L.length)
     case measure => omega
     case rel => exact ⟨T, tc, L, s', rfl, hb.out, ho.out, hfT.out, hm.out, hdn.out, Nat.le_refl _, hl2⟩
theorem len_flat : ∀ {ks : List (List Nat)}, (∀ K ∈ ks, K ≠ []) → ks.length ≤ ks.flatten.length
 | [], _ => Nat.le_refl _
 | K :: ks, h => by
  have ih := len_flat (ks := ks) fun K2 h2 => h K2 (List.mem_cons_of_mem _ h2)
  have h1 : 0 < K.length := List.length_pos_iff.2 (h K (by simp))
  rw [List.flatten_cons, List.length_append, List.length_cons]
  omega
def preN (lls : List (List Int)) (j : Nat) : Nat := (lls.take j).flatten.length
theorem pre_succ {lls : List (List Int)} {j : Nat} {l : List Int} (h : lls[j]? = some l) : (lls.take (j + 1)).flatten = (lls.take j).flatten ++ l ∧ preN lls (j + 1) = preN lls j + l.length := by
 have hj : j < lls.length := by
  rcases Nat.lt_or_ge j lls.length with hh | hh
  ·exact hh
  ·rw [List.getElem?_eq_none hh] at h; cases h
 rw [List.getElem?_eq_getElem hj] at h
 injection h with h
 have e : (lls.take (j + 1)).flatten = (lls.take j).flatten ++ l := by
  rw [List.take_succ_eq_append_getElem hj, List.flatten_append, h]; simp
 exact ⟨e, by unfold preN; rw [e, List.length_append]⟩
def SameWZ (w wr : World) : Prop := w = wr
theorem growZ_ok (w : World) (n : Nat) (hn : n ≤ 1000000000) : Calls Tryz.prog 208 #[.slice none 0 0, .int .i64 (n : Int)] w fun e w' =>
  ∃ A' c', e = .returned (.slice A' 0 c') ∧ OwZ w' A' 0 c' [] ∧ Fresh w A' ∧ Mod none_ w w' := by
 obtain ⟨i0, hi, hz0, hz1, hz2⟩ := info_parts intinfo
 rcases Nat.eq_zero_or_pos n with h0 | h0
 ·subst h0
  go_enter Tryz.func208, Tryz.ntmps208
  go_wp2
  go_ret
  exact ⟨none, 0, rfl, Ow.nil _ _ _, (fun _ h => by cases h), Mod.refl _ _⟩
 ·have hg1 := grownCap_le_maxLen w n 0 3 (by simp only [maxLen]; omega)
  have hg0 := grownCap_ge w n 0 3
  have hcl : ∀ c, c = grownCap w n 0 3 → c ≤ 9223372036854775807 := fun c hc => by rw [hc]; simpa [maxLen] using hg1
  go_enter Tryz.func208, Tryz.ntmps208
  go_wp2_with (at_builtin; refine wpList_append_zeros_nil rfl (.tmp 20) (.tmp 21) 31 3 rfl 3 .i64 i0 _ Tryz.underlying31 Tryz.underlying3 hi hz0 n h0 (by rw [hz2]; omega) (by omega) (by omega) rfl rfl ?_)
  go_ret
  refine ⟨some ⟨w.heap.size, 0, none⟩, grownCap w n 0 3, rfl, ⟨rfl, Nat.zero_le _, hg1, .inr ⟨w.heap.size, _, rfl, heap_alloc_new w.drew _, ?_, by simp [ivs]⟩⟩, ?_, ((Mod.refl none_ w).drew).alloc _⟩
  ·simp only [Array.size_append, size_zeroCells]
   simp only [List.size_toArray, List.length_cons, List.length_nil]
   omega
  ·intro a ha; cases ha; exact Nat.le_refl _
theorem concatZ_ok (w : World) (G : Option Addr) (m d : Nat) (ss : List SV) (lls : List (List Int)) (h : RdG w G m ss lls) (hb1 : ∀ l ∈ lls, l.length ≤ 1000) (hm1 : m ≤ 1000) :
  Calls Tryz.prog 162 #[.slice G m d] w fun e w' =>
  ∃ A' c', e = .returned (.slice A' lls.flatten.length c') ∧ OwZ w' A' lls.flatten.length c' lls.flatten ∧ Fresh w A' ∧ Mod none_ w w' := by
 have hl := h.len
 have hb : ∀ j, j ≤ m → preN lls j ≤ j * 1000 := by
  intro j
  induction j with
  | zero => intro _; unfold preN; simp
  | succ j ih =>
   intro hj
   have := ih (by omega)
   obtain ⟨b, o, A, n, c, l, _, _, hl2, hr, _, _⟩ := h.get (show j < m by omega)
   have hn := hb1 l (List.mem_of_getElem? hl2)
   have h2 := (pre_succ hl2).2
   have h3 := hr.len
   omega
 have hfull : lls.take m = lls := List.take_of_length_le (by omega)
 have hpm : preN lls m = lls.flatten.length := by unfold preN; rw [hfull]
 have hbm := hb m (by omega)
 have gr := zH (fun W => growZ_ok W (preN lls m) (by omega))
 replace h := zH h
 replace hfull := zH hfull
 replace hb := zH hb
 replace hpm := zH hpm
 go_enter Tryz.func162, Tryz.ntmps162
 go_wp2_with fail
 go_loopw [3, 11] (fun s x wr => ∃ j : Nat, x = .int .i64 j ∧ s = .int .i64 (preN lls j : Nat) ∧ j ≤ m ∧ SameWZ w wr) (fun _ x _ => m - (intOf x).toNat)
 case atStart => exact ⟨0, rfl, by unfold preN; simp, by omega, rfl⟩
 case round =>
  obtain ⟨j, rfl, rfl, hj, hw⟩ := hrel
  cases hw
  by_cases hlt : j < m
  ·obtain ⟨b, o, A, n, c, l, rfl, hc, hl2, hr, hcc, _⟩ := h.out.get hlt
   have hn := hb1 l (List.mem_of_getElem? hl2)
   rw [hr.len] at hn
   have h2 := (pre_succ hl2).2
   have h3 := hr.len
   have h4 := hb.out j hj
   have h5 : j * 1000 ≤ 1000000 := by omega
   rw [h3] at h2
   generalize preN lls j = pj at *
   have h6 : wrap64 ((pj : Int) + (n : Int)) = ((pj + n : Nat) : Int) := by unfold wrap64; omega
   replace hl2 := zH hl2
   replace hr := zH hr
   replace h2 := zH h2
   replace h3 := zH h3
   go_wp2_with fail
   go_roundw
   case rel => exact ⟨j + 1, by go_num, by rw [h2.out]; simp, by omega, rfl⟩
   case measure => simp [intOf]; omega
  ·have hjm : j = m := by omega
   subst hjm
   go_wp2_with fail
   refine (gr.out _).mono ?_
   rintro e w1 ⟨A0, c0, rfl, ho0, hf0, hm0⟩
   dsimp only
   replace ho0 := zH ho0
   replace hf0 := zH hf0
   replace hm0 := zH hm0
   go_wp2_with fail
   go_loopw [6, 27] (fun v x wr => ∃ i : Nat, x = .int .i64 i ∧ i ≤ j ∧ ∃ A' c', v = .slice A' (preN lls i) c' ∧ OwZ wr A' (preN lls i) c' (lls.take i).flatten ∧ Fresh w A' ∧ Mod none_ w wr) (fun _ x _ => j - (intOf x).toNat)
   case atStart =>
    refine ⟨0, rfl, by omega, A0, c0, ?_, ?_, hf0.out, hm0.out⟩
    ·unfold preN; simp
    ·have := ho0.out; unfold preN; simpa using this
   case round =>
    obtain ⟨i, rfl, hi, A', c', rfl, how, hf, hm⟩ := hrel
    by_cases hlt2 : i < j
    ·obtain ⟨b, o, A, n, c, l, rfl, hc, hl2, hr, hcc, _⟩ := (h.out.mod0 hm).get hlt2
     have hn := hb1 l (List.mem_of_getElem? hl2)
     rw [hr.len] at hn
     obtain ⟨e1, e2⟩ := pre_succ hl2
     have h3 := hr.len
     have h4 := hb.out i hi
     have h5 : i * 1000 ≤ 1000000 := by omega
     rw [h3] at e2
     generalize preN lls i = pj at *
     replace how := zH how
     replace hf := zH hf
     replace hm := zH hm
     replace hl2 := zH hl2
     replace hr := zH hr
     replace e1 := zH e1
     replace e2 := zH e2
     replace h3 := zH h3
     go_wp2_with (at_builtin; go_loud (refine appZ rfl (.tmp 31) (.tmp 32) rfl rfl how.out rfl hr.out (by omega) ?_; intro A2 c2 w2 ho2 hm2 hA2; replace ho2 := zH ho2; replace hm2 := zH hm2; replace hA2 := zH hA2))
     go_roundw
     case rel =>
      refine ⟨i + 1, by go_num, by omega, A2, c2, by rw [e2.out], ?_, Fresh.app hf.out hm.out.size hA2.out, hm.out.app hf.out hm2.out⟩
      rw [e2.out, e1.out]; exact ho2.out
     case measure => simp [intOf]; omega
    ·have hij : i = j := by omega
     subst hij
     rw [hfull.out] at how
     rw [hpm.out] at how ⊢
     replace how := zH how
     replace hf := zH hf
     replace hm := zH hm
     go_wp2_with fail
     go_ret
     exact ⟨A', c', rfl, how.out, hf.out, hm.out⟩
theorem zs_flat (ks : List (List Nat)) : (ks.map zs).flatten = zs ks.flatten := by
 induction ks with
 | nil => rfl
 | cons k ks ih => rw [List.map_cons, List.flatten_cons, ih, List.flatten_cons, zs_app]
theorem knot_le {g : List (List Int)} {ks : List (List Nat)} (h : KSeq g (fun _ => False) ks) : ks.length ≤ g.length ∧ ∀ K ∈ ks, K.length ≤ g.length := by
 have hF := knots_facts h
 have hfl := flat_len hF
 refine ⟨?_, fun K hK => ?_⟩
 ·rw [← hfl]
  exact len_flat fun K hK => by obtain ⟨j, hj, e⟩ := List.getElem_of_mem hK; exact (row_sorted hF (by rw [List.getElem?_eq_getElem hj, e])).2
 ·rw [← hfl]
  exact (List.sublist_flatten_of_mem hK).length_le
def OrderPost (g : List (List Int)) (w : World) (e : Ending) (w' : World) : Prop := ∃ ks : List (List Nat), KSeq g (fun _ => False) ks ∧ ReachPost ks.flatten w e w'
theorem order_ok (w : World) (A : Option Addr) (n c : Nat) (ss : List SV) (g : List (List Int)) (hg : RdG w A n ss g) (hn : n ≤ 1000) :
  Calls Tryz.prog 90 #[.slice A n c] w (OrderPost g w) := by
 have hgl := hg.len
 have kK := zH (knots_ok w A n c ss g hg (by omega))
 replace hg := zH hg
 go_enter Tryz.func90, Tryz.ntmps90
 go_wp2_with fail
 with_reducible refine kK.out.mono ?_
 rintro e w1 ⟨ks, hseq, G, d, ts, rfl, hO, _, hm1⟩
 dsimp only
 obtain ⟨h1, h2⟩ := knot_le hseq
 have kC := zH (concatZ_ok w1 G ks.length d ts (ks.map zs) hO.rd (fun l hl => by obtain ⟨K, hK, rfl⟩ := List.mem_map.1 hl; rw [zs_len]; have := h2 K hK; omega) (by omega))
 replace hO := zH hO
 replace hm1 := zH hm1
 replace hseq := zH hseq
 replace h1 := zH h1
 replace h2 := zH h2
 go_wp2_with fail
 with_reducible refine kC.out.mono ?_
 rintro e w2 ⟨B, c2, rfl, ho, hf, hm2⟩
 dsimp only
 rw [zs_flat, zs_len] at ho
 rw [zs_flat, zs_len]
 replace ho := zH ho
 replace hf := zH hf
 replace hm2 := zH hm2
 go_wp2_with fail
 go_ret
 exact ⟨ks, hseq.out, B, c2, rfl, ho.out, Fresh.later hf.out hm1.out.size, hm1.out.trans hm2.out⟩
end Go.Proofs.YtfkfiokkjjnhiaaGreat.Kn
namespace Go.Proofs.YtfkfiokkjjnhiaaGreat
open Go.RowKit
def NoDeps (K : List InstV) : Prop := ∀ p ∈ K, ∃ e L D, p.2 = enV e L D ∧ D.n = 0
def GrPost (w : World) (K : List InstV) (e : Ending) (w' : World) : Prop := ∃ A c ss G, e = .returned (.tuple #[.slice A K.length c, .slice G K.length K.length]) ∧ ss.Perm (K.map (·.1)) ∧ OwP w' A K.length c ss ∧ Fresh w A ∧
 Kn.RdG w' G K.length (List.replicate K.length L0) (List.replicate K.length []) ∧ Fresh w G ∧ Mod none_ w w'
theorem rdG_nil (w : World) (G : Option Addr) (n : Nat) (h : Rd w 1 G n (List.replicate n (.slice none 0 0))) : Kn.RdG w G n (List.replicate n L0) (List.replicate n []) := by
 refine ⟨by rw [List.map_replicate]; exact h, by simp, fun i s l hs hl => ?_⟩
 have h1 := List.eq_of_mem_replicate (List.mem_of_getElem? hs)
 have h2 := List.eq_of_mem_replicate (List.mem_of_getElem? hl)
 subst h1 h2
 exact ⟨Rd.none_, Nat.le_refl _, by show (0 : Nat) ≤ _; omega⟩
theorem rdG_made (w : World) (n : Nat) : Rd (w.alloc (.cells (madeCells #[.slice none 0 0] n) 31)) 1 (some ⟨w.heap.size, 0, none⟩) n (List.replicate n (.slice none 0 0)) := by
 refine ⟨by simp, fun hn => ⟨_, rfl, fun j u hu => ?_⟩⟩
 have hj : j < n := by
  have := (List.getElem?_eq_some_iff.1 hu).1
  simpa using this
 have hu' : u = .slice none 0 0 := by rw [List.getElem?_replicate, if_pos hj] at hu; exact (Option.some.inj hu).symm
 subst hu'
 rw [add_lit]
 have := (Blk.new w 31 (madeCells #[.slice none 0 0] n)).cell j
 rw [this]
 simp [madeCells, hj, Nat.mod_one]
set_option maxRecDepth 100000
theorem graph_ok (w : World) (q kn : Nat) (K : List InstV) (c0 : w.cell? ⟨q, 0, none⟩ = some (.map (some kn))) (hK : MapK w kn K) (hn : K.length ≤ 1000000) (hd : NoDeps K) :
  Calls Tryz.prog 86 #[.pointer (some ⟨q, 0, none⟩)] w (GrPost w K) := by
 have hq := World.block_lt_of_cell? w _ c0
 dsimp only at hq
 have kN := zH (known_ok w q kn K c0 hK hn)
 replace hK := zH hK
 go_enter Tryz.func86, Tryz.ntmps86
 go_wp2_with fail
 refine kN.out.mono ?_
 rintro e w1 ⟨A, c, ss, rfl, hp, hr, ho, hf, hm1⟩
 dsimp only
 have hl := hp.length_eq
 rw [List.length_map] at hl
 have hwf : Hid (∀ p ∈ K, inI p.1) := zH hK.out.wf
 have hnd := zH hK.out.nodup
 have hmk := fun W => make_run (P := Tryz.prog) W 165 31 (.slice none 0 0) 24 K.length Tryz.underlying165 Kn.slginfo rfl (by omega) (by omega)
 have c1 : w1.cell? ⟨q, 0, none⟩ = some (.map (some kn)) := hm1.cell_some c0 (fun h => h)
 have hG := zH (rdG_made w1 K.length)
 have hM1 := zH (hm1.alloc (.cells (madeCells #[.slice none 0 0] K.length) 31))
 replace hp := zH hp
 replace hr := zH hr
 replace ho := zH ho
 replace hf := zH hf
 replace hm1 := zH hm1
 replace hl := zH hl
 replace hd := zH hd
 go_wp2_with fail
 go_loopw [19] (fun y wr => ∃ j : Nat, y = .int .i64 (j : Int) ∧ j ≤ K.length ∧ Mod none_ (w1.alloc (.cells (madeCells #[.slice none 0 0] K.length) 31)) wr) (fun y _ => K.length - (intOf y).toNat)
 case atStart => exact ⟨0, rfl, by omega, Mod.refl _ _⟩
 case round =>
  obtain ⟨j, rfl, hj, hm⟩ := hrel
  have hMr := hM1.out.trans hm
  by_cases hlt : j < K.length
  ·have hor := Ow.mod0 (Ow.mod0 ho.out ((Mod.refl none_ w1).alloc (.cells (madeCells #[.slice none 0 0] K.length) 31))) hm
   obtain ⟨g, o, x, hA, hxm, hx, y1, y2⟩ := rdp_get (show RdP wr A K.length ss from Ow.rd hor) hlt
   subst hA
   obtain ⟨p, hpK, rfl⟩ := List.mem_map.1 (hp.out.mem_iff.1 hxm)
   obtain ⟨e, L, D, hpv, hDn⟩ := hd.out p hpK
   have hKr := hK.out.mod hMr (fun h => h)
   have cr : wr.cell? ⟨q, 0, none⟩ = some (.map (some kn)) := hMr.cell_some c0 (fun h => h)
   have lqr := World.block_lt_of_cell? wr _ cr
   have lgr := World.block_lt_of_cell? wr _ y1
   dsimp only at lqr lgr
   have hfind : findI K p.1 = some p.2 := findI_of_mem hnd.out hpK
   have hin := hwf.out p hpK
   obtain ⟨W2, hW2⟩ : ∃ W2, W2 = (wr.alloc (.cells #[.int .i64 p.1.r, .int .i64 p.1.n] 27)) := ⟨_, rfl⟩
   have hmW : Mod none_ wr W2 := by rw [hW2]; exact (Mod.refl none_ wr).alloc _
   have lk : ∀ k, (Instr.lookup 142 (.map (some kn)) (.agg #[.int .i64 p.1.r, .int .i64 p.1.n]) false).run Tryz.prog (W2.drewN k) = .ok (.agg #[.int .i64 e.o.c, .int .i64 e.o.s, .int .i64 e.o.k, .string (txt e.o.acct), .string (txt e.o.peer), .int .i64 e.o.sum, .slice L.a L.n L.c, .int .i64 e.o.per, .int .i64 e.o.hold, .string (txt e.o.note), .bool e.none, .slice D.a D.n D.c]) (W2.drewN k) := by
    intro k
    have := ((hKr.mod hmW (fun h => h)).mod ((Mod.refl none_ W2).drewN k) (fun h => h)).get_run (t := 142) Tryz.underlying142 (zeroEn_run _) hin
    rw [hfind, hpv] at this
    exact this
   have hfl : ∀ W, (Instr.field 53 (.agg #[.int .i64 e.o.c, .int .i64 e.o.s, .int .i64 e.o.k, .string (txt e.o.acct), .string (txt e.o.peer), .int .i64 e.o.sum, .slice L.a L.n L.c, .int .i64 e.o.per, .int .i64 e.o.hold, .string (txt e.o.note), .bool e.none, .slice D.a D.n D.c]) 2).run Tryz.prog W = .ok (.slice D.a D.n D.c) W := fun _ => rfl
   have hbW : Blk W2 wr.heap.size 27 #[.int .i64 p.1.r, .int .i64 p.1.n] := by rw [hW2]; exact Blk.new wr _ _
   have cW : W2.cell? ⟨q, 0, none⟩ = some (.map (some kn)) := hmW.cell_some cr (fun h => h)
   have lW := hbW.lt
   have lqW := World.block_lt_of_cell? W2 _ cW
   dsimp only at lqW
   have hMW := zH (fun k => hm.trans (hmW.trans ((Mod.refl none_ W2).drewN k)))
   have x1 := hbW.cell_ (i := 0) rfl
   have x2 := hbW.cell_ (i := 1) rfl
   replace hor := zH hor
   replace hKr := zH hKr
   replace hW2 := zH hW2
   replace hmW := zH hmW
   replace hm := zH hm
   replace hMr := zH hMr
   replace hpv := zH hpv
   replace hpK := zH hpK
   replace hfind := zH hfind
   replace hbW := zH hbW
   replace hDn := zH hDn
   go_upto_region 6 with fail
   rw [← hW2.out]
   go_quiet (fail)
   have hDn' := hDn.out
   go_wp2_with fail
   go_loopw [32] (fun y wr2 => y = .int .i64 0 ∧ ∃ k, wr2 = W2.drewN k) (fun y _ => 0)
   case atStart => exact ⟨rfl, _, rfl⟩
   case round =>
    obtain ⟨rfl, k, rfl⟩ := hrel
    go_wp2_with fail
    go_roundw
    case rel => exact ⟨j + 1, by go_num, by omega, hMW.out k⟩
    case measure => simp [intOf]; omega
  ·obtain rfl : j = K.length := by omega
   replace hm := zH hm
   replace hMr := zH hMr
   go_wp2_with fail
   go_ret2
   exact ⟨A, c, ss, _, rfl, hp.out, Ow.mod0 ho.out (((Mod.refl none_ w1).alloc _).trans hm.out), hf.out, rdG_nil _ _ _ (Rd.mod0 hG.out hm.out), fun a ha => by cases ha; exact hm1.out.size, hMr.out⟩
end Go.Proofs.YtfkfiokkjjnhiaaGreat
