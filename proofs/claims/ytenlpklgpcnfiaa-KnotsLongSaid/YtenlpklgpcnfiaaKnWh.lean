/-
  KnotsWhole: the walk.
-/
import Derived.Test.YtenlpklgpcnfiaaKnLO
import Derived.Test.YtenlpklgpcnfiaaKnWhP
namespace Go.Proofs.Ytenlpklgpcnfiaa
set_option linter.unusedVariables false
open Go.RowKit
open Classical in
noncomputable def fP (ks : List (List Nat)) (P : List Nat) : Nat → Int := fun v => if v ∈ P then (placeN ks v : Int) else 0
theorem fP_one {g : List (List Int)} {ks : List (List Nat)} (h : KFacts g (fun _ => False) ks) {j : Nat} {K : List Nat} {p : Nat} (hj : ks[j]? = some K) (hp : p ∈ K) (P : List Nat) : upd (fP ks P) p (((j + 1 : Nat) : Int)) = fP ks (P ++ [p]) := by
  funext v
  unfold fP
  by_cases e : v = p
  · subst e
    rw [upd_self, if_pos (by simp), place_of h hj hp]
  · rw [upd_ne _ _ e]
    by_cases h1 : v ∈ P
    · rw [if_pos h1, if_pos (by simp [h1])]
    · rw [if_neg h1, if_neg (by simp [h1, e])]
theorem len_flat : ∀ {ks : List (List Nat)}, (∀ K ∈ ks, K ≠ []) → ks.length ≤ ks.flatten.length
  | [], _ => Nat.le_refl _
  | K :: ks, h => by
    have ih := len_flat (ks := ks) fun K2 h2 => h K2 (List.mem_cons_of_mem _ h2)
    have h1 : 0 < K.length := List.length_pos_iff.2 (h K (by simp))
    rw [List.flatten_cons, List.length_append, List.length_cons]
    omega
theorem take_flat {ks : List (List Nat)} {j : Nat} {K : List Nat} (h : ks[j]? = some K) : (ks.take (j + 1)).flatten = (ks.take j).flatten ++ K := by
  have hj : j < ks.length := by
    rcases Nat.lt_or_ge j ks.length with h1 | h1
    · exact h1
    · rw [List.getElem?_eq_none h1] at h; cases h
  rw [List.getElem?_eq_getElem hj] at h
  injection h with h
  rw [List.take_succ_eq_append_getElem hj, List.flatten_append, h]
  simp
theorem take_flat_le (ks : List (List Nat)) (i : Nat) : (ks.take i).flatten.length ≤ ks.flatten.length := by
  have h := congrArg (fun l : List (List Nat) => l.flatten.length) (List.take_append_drop i ks)
  simp only [List.flatten_append, List.length_append] at h
  omega
/-- a knot's row -/
theorem ow_knot {w : World} {H : Option Addr} {r c : Nat} {ss : List SV} {ks : List (List Nat)} (h : OwG w H r c ss (ks.map zs)) {j : Nat} (hj : j < r) : ∃ b o B cc K, H = some ⟨b, o, none⟩ ∧ w.cell? ⟨b, o + j, none⟩ = some (.slice B K.length cc) ∧ ks[j]? = some K ∧ RdI w B K.length (zs K) := by
  obtain ⟨b, o, B, kk, cc, l, hH, hc, hl, hr, _, _⟩ := h.rd.get hj
  rw [List.getElem?_map] at hl
  cases hk : ks[j]? with
  | none => rw [hk] at hl; cases hl
  | some K =>
    rw [hk] at hl
    cases hl
    have := hr.len
    rw [zs_len] at this
    subst this
    exact ⟨b, o, B, cc, K, hH, hc, rfl, hr⟩
theorem take_mem_succ {L : List Nat} {j z x : Nat} (h : L[j]? = some z) : x ∈ L.take (j + 1) ↔ x ∈ L.take j ∨ x = z := by
  have hj : j < L.length := by
    rcases Nat.lt_or_ge j L.length with h1 | h1
    · exact h1
    · rw [List.getElem?_eq_none h1] at h; cases h
  rw [List.getElem?_eq_getElem hj] at h
  injection h with h
  rw [List.take_succ_eq_append_getElem hj, List.mem_append, h]
  simp
set_option maxRecDepth 100000 in
set_option maxHeartbeats 16000000 in
theorem knotsWhole_walk (w : World) (A : Option Addr) (n c : Nat) (ss : List SV) (g0 : List (List Int)) (hg0 : RdG w A n ss g0) :
    Calls Try.prog 4 #[.slice A n c] w fun e w' => e = .returned (.bool true) ∧ Below w.heap.size w w' := by
  have k0 := Lib.hid (lives_ok w)
  have k1 := Lib.hid (fun W (h : Mod none_ w W) => few_ok W A n c ss g0 (hg0.mod0 h) 100 (by omega))
  replace hg0 := Lib.hid hg0
  go_enter Try.func4, Try.ntmps4
  go_wp2_with fail
  with_reducible refine k0.out.mono ?_
  rintro e w1 ⟨rfl, hm1⟩
  dsimp only
  have k2 := Lib.hid (k1.out w1 hm1)
  replace hm1 := Lib.hid hm1
  go_wp2_with fail
  refine k2.out.mono ?_
  rintro e w2 ⟨G, d, ts, rfl, hO, hfG, hm2⟩
  dsimp only
  have hgl0 := fewG_len 100 g0
  generalize fewG 100 g0 = g at *
  obtain ⟨m, hm⟩ : ∃ m, g.length = m := ⟨_, rfl⟩
  have hm25 : m ≤ 100 := by omega
  clear hgl0
  have hgr := Lib.hid hO.rd
  rw [hm] at hO hgr ⊢
  have hmw := hm1.out.trans hm2
  have kK := Lib.hid (knots_ok w2 G m d ts g hgr.out (by omega))
  have kRe := Lib.hid (fun W (h : Mod none_ w2 W) f (hf : f < m) => reach_ok W G m d ts g (hgr.out.mod0 h) (by omega) f hf)
  have hmk := fun W => make_run (P := Try.prog) W 28 3 _ 8 m Try.underlying28 intinfo rfl (by omega) (by omega)
  replace hO := Lib.hid hO
  replace hfG := Lib.hid hfG
  replace hm2 := Lib.hid hm2
  replace hm := Lib.hid hm
  replace hmw := Lib.hid hmw
  go_wp2_with fail
  refine kK.out.mono ?_
  rintro e w3 ⟨ks, hseq, H, ch, s3, rfl, hOk, hfH, hm3⟩
  dsimp only
  have hF := knots_facts hseq
  have hfl := flat_len hF
  rw [hm.out] at hfl
  have hrl : ks.length ≤ m := by rw [← hfl]; exact len_flat fun K hK => by obtain ⟨j, hj, e⟩ := List.getElem_of_mem hK; exact (row_sorted hF (by rw [List.getElem?_eq_getElem hj, e])).2
  have hb0 : Blk (w3.alloc (.cells (madeCells #[.int .i64 0] m) 3)) w3.heap.size 3 (rowI m (fP ks [])) := by
    have : fP ks [] = fun _ => 0 := by funext v; simp [fP]
    rw [this, ← made_rowI]; exact Blk.new w3 _ _
  obtain ⟨r, hr⟩ : ∃ r, ks.length = r := ⟨_, rfl⟩
  rw [hr] at hOk hrl ⊢
  clear kK
  replace hseq := Lib.hid hseq
  replace hOk := Lib.hid hOk
  replace hfH := Lib.hid hfH
  replace hm3 := Lib.hid hm3
  replace hF := Lib.hid hF
  replace hfl := Lib.hid hfl
  replace hb0 := Lib.hid hb0
  replace hr := Lib.hid hr
  go_wp2_with fail
  go_loopg [5, 6] r (fun k v5 v wr => ∃ i, v = .int .i64 (i : Nat) ∧ i + k = r ∧ v5 = .int .i64 ((ks.take i).flatten.length : Nat) ∧ Blk wr w3.heap.size 3 (rowI m (fP ks (ks.take i).flatten)) ∧ Mod none_ w3 wr)
  case atStart => exact ⟨0, rfl, by omega, rfl, hb0.out, (Mod.refl none_ w3).alloc _⟩
  case round =>
    obtain ⟨i, rfl, hik, rfl, hb, hmr⟩ := hrel
    by_cases hlt : i < r
    · obtain ⟨b, o, B, cc, K, hH, hc0, hKi, hrK⟩ := ow_knot hOk.out hlt
      subst hH
      have htk := take_flat hKi
      have hpl : (ks.take i).flatten.length ≤ m := by
        have h1 : (ks.take i).flatten.length ≤ ks.flatten.length := take_flat_le ks i
        have h2 := hfl.out
        omega
      generalize hP : (ks.take i).flatten = P at *
      generalize hPl : P.length = pl at *
      obtain ⟨kl, hkl⟩ : ∃ kl, K.length = kl := ⟨_, rfl⟩
      have hkm : pl + kl ≤ m := by
        have h1 : (ks.take (i + 1)).flatten.length ≤ ks.flatten.length := take_flat_le ks (i + 1)
        rw [htk, List.length_append, hPl, hkl, hfl.out] at h1
        exact h1
      rw [hkl] at hc0 hrK
      have hc1 := hmr.cell_some hc0 (fun h => h)
      replace hb := Lib.hid hb
      replace hmr := Lib.hid hmr
      replace hKi := Lib.hid hKi
      replace hrK := Lib.hid hrK
      replace htk := Lib.hid htk
      replace hP := Lib.hid hP
      replace hPl := Lib.hid hPl
      replace hkl := Lib.hid hkl
      go_wp2_with fail
      go_loopg [5, 7] kl (fun k2 v5 v wr => ∃ k, v = .int .i64 (k : Nat) ∧ k + k2 = kl ∧ v5 = .int .i64 ((pl + k : Nat) : Int) ∧ Blk wr w3.heap.size 3 (rowI m (fP ks (P ++ K.take k))) ∧ Mod none_ w3 wr)
      case atStart => exact ⟨0, rfl, by omega, rfl, by rw [List.take_zero, List.append_nil]; exact hb.out, hmr.out⟩
      case round =>
        obtain ⟨k, rfl, hk2, rfl, hb, hmr⟩ := hrel
        have hc1 := hmr.cell_some hc0 (fun h => h)
        by_cases hkk : k < kl
        · obtain ⟨b2, o2, p, hB, hpK, hpc0, hpk⟩ := rdz_get hrK.out hkk
          have hpc := hmr.cell_some hpc0 (fun h => h)
          obtain ⟨hnew, hpm, htk1⟩ := pass_one hF.out hKi.out hpk
          rw [hP.out] at hnew
          rw [hm.out] at hpm
          have xa := hb.cell_ (rowI_get _ hpm)
          have za := hb.frozen p
          have hf0 : fP ks (P ++ K.take k) p = 0 := if_neg hnew
          rw [hf0] at xa
          have hup := fP_one hF.out hKi.out hpK (P ++ K.take k)
          have hb2 := hb.set_ p (.int .i64 ((i + 1 : Nat) : Int))
          rw [rowI_set, hup, List.append_assoc, ← htk1] at hb2
          have hmr2 := hmr.then ((Mod.refl (fun j => j = w3.heap.size) wr).setCell (p := ⟨w3.heap.size, p, none⟩) (.inl rfl) (.int .i64 ((i + 1 : Nat) : Int))) (fun j hj e => by omega)
          have hci : ((i + 1 : Nat) : Int) = (i : Int) + 1 := by omega
          rw [hci] at hb2 hmr2
          have hd1 : ¬ ((p : Int) < 0) := by omega
          have hd2 : ¬ ((m : Int) ≤ (p : Int)) := by omega
          have hpp : Hid (∀ k', k = k' + 1 → ∃ p' : Nat, wr.cell? ⟨b2, o2 + k', none⟩ = some (.int .i64 (p' : Int)) ∧ p' < p) := Lib.hid (fun k' e => by
            subst e
            obtain ⟨b3, o3, p', hB3, hpK', hpc', hpk'⟩ := rdz_get hrK.out (show k' < kl by omega)
            rw [hB] at hB3
            cases hB3
            refine ⟨p', hmr.cell_some hpc' (fun h => h), ?_⟩
            have hs := (row_sorted hF.out hKi.out).1
            have h1 : k' < K.length := by rw [hkl.out]; omega
            have h2 : k' + 1 < K.length := by rw [hkl.out]; omega
            have h3 := (List.pairwise_iff_getElem.1 hs) k' (k' + 1) h1 h2 (by omega)
            rw [List.getElem?_eq_getElem h1] at hpk'
            rw [List.getElem?_eq_getElem h2] at hpk
            cases hpk'
            cases hpk
            exact h3)
          subst hB
          clear hpc0 hup hf0 hci
          replace hb := Lib.hid hb
          replace hmr := Lib.hid hmr
          replace hpK := Lib.hid hpK
          replace hpk := Lib.hid hpk
          replace hnew := Lib.hid hnew
          replace htk1 := Lib.hid htk1
          replace hb2 := Lib.hid hb2
          replace hmr2 := Lib.hid hmr2
          rcases k with _ | k'
          · rw [Nat.add_zero] at hpc
            go_wp2_with fail
            go_roundg (gk - 1)
            case measure => omega
            case rel => exact ⟨0 + 1, by go_num, by omega, by simp, hb2.out, hmr2.out⟩
          · obtain ⟨p', hpc', hlt'⟩ := hpp.out k' rfl
            have hd3 : ¬ ((p : Int) ≤ (p' : Int)) := by omega
            clear hpp
            go_wp2_with fail
            go_roundg (gk - 1)
            case measure => omega
            case rel => exact ⟨k' + 1 + 1, by go_num, by omega, by simp; omega, hb2.out, hmr2.out⟩
        · obtain rfl : k = kl := by omega
          have hdn : Hid (Blk wr w3.heap.size 3 (rowI m (fP ks (ks.take (i + 1)).flatten))) := Lib.hid (by
            rw [htk.out]
            rw [List.take_of_length_le (by rw [hkl.out]; exact Nat.le_refl _)] at hb
            exact hb)
          have hl2 : Hid ((ks.take (i + 1)).flatten.length = pl + k) := Lib.hid (by rw [htk.out, List.length_append, hPl.out, hkl.out])
          replace hb := Lib.hid hb
          replace hmr := Lib.hid hmr
          go_wp2_with fail
          go_roundg (r - (i + 1))
          case measure => omega
          case rel => exact ⟨i + 1, by go_num, by omega, by rw [hl2.out], hdn.out, hmr.out⟩
    · obtain rfl : i = r := by omega
      have hfull : (ks.take i).flatten = ks.flatten := by rw [List.take_of_length_le (by rw [hr.out]; exact Nat.le_refl _)]
      have hbe : rowI m (fP ks ks.flatten) = rowI m fun v => (placeN ks v : Int) := by
        unfold rowI
        congr 1
        refine List.map_congr_left fun v hv => ?_
        rw [List.mem_range] at hv
        obtain ⟨j, K, hj, hvK⟩ := hF.out.all v (by rw [hm.out]; exact hv) (fun h => h)
        unfold fP
        rw [if_pos (List.mem_flatten.2 ⟨K, List.mem_of_getElem? hj, hvK⟩)]
      rw [hfull, hbe] at hb
      rw [hfull, hfl.out]
      obtain ⟨w5, hw5⟩ : ∃ w5, w5 = wr := ⟨_, rfl⟩
      rw [← hw5] at hb hmr
      have hm5 := hm3.out.trans hmr
      have hle := Lib.hid (fun v k (h : Edge g v k) => place_le hF.out h)
      generalize hpl : placeN ks = pl at *
      replace hb := Lib.hid hb
      replace hmr := Lib.hid hmr
      replace hfull := Lib.hid hfull
      replace hbe := Lib.hid hbe
      replace hw5 := Lib.hid hw5
      replace hm5 := Lib.hid hm5
      replace hpl := Lib.hid hpl
      go_wp2_with fail
      go_loopg [9] m (fun k v wr => ∃ i, v = .int .i64 (i : Nat) ∧ i + k = m ∧ Mod none_ w5 wr)
      case atStart => exact ⟨0, rfl, by omega, by rw [hw5.out]; exact Mod.refl _ _⟩
      case round =>
        obtain ⟨v, rfl, hvk, hmv⟩ := hrel
        by_cases hvm : v < m
        · obtain ⟨b, o, B, kk, cc, l, hG, hc0, hgi, hrd, hkc, hkb⟩ := hgr.out.get hvm
          subst hG
          have hll := hrd.len
          have hc1 := (hm5.out.trans hmv).cell_some hc0 (fun h => h)
          replace hmv := Lib.hid hmv
          replace hgi := Lib.hid hgi
          replace hrd := Lib.hid hrd
          replace hkc := Lib.hid hkc
          replace hll := Lib.hid hll
          go_wp2_with fail
          go_loopg [10] kk (fun k2 v wr => ∃ e, v = .int .i64 (e : Nat) ∧ e + k2 = kk ∧ Mod none_ w5 wr)
          case atStart => exact ⟨0, rfl, by omega, hmv.out⟩
          case round =>
            obtain ⟨e, rfl, hek, hmv⟩ := hrel
            have hc1 := (hm5.out.trans hmv).cell_some hc0 (fun h => h)
            by_cases hle2 : e < kk
            · obtain ⟨b2, o2, hB, hxl, hx0⟩ := rdi_get (Rd.mod0 hrd.out (hm5.out.trans hmv)) hle2
              have hx : l[e]? = some l[e] := List.getElem?_eq_getElem hxl
              generalize l[e] = x at hx hx0
              subst hB
              have xv := (hb.out.mod hmv (fun h => h)).cell_ (rowI_get _ hvm)
              by_cases hneg : x < 0
              · have hd1 : decide ((0 : Int) ≤ x) = false := by simpa using hneg
                replace hmv := Lib.hid hmv
                replace hx := Lib.hid hx
                go_wp2_with (go_quiet (fail))
                go_roundg (gk - 1)
                case measure => omega
                case rel => exact ⟨e + 1, by go_num, by omega, hmv.out.drewN _⟩
              · obtain ⟨p, rfl⟩ : ∃ p : Nat, x = (p : Int) := ⟨x.toNat, by omega⟩
                by_cases hpm : p < m
                · have xp := (hb.out.mod hmv (fun h => h)).cell_ (rowI_get _ hpm)
                  have hpv := hle.out v p ⟨l, hgi.out, List.mem_of_getElem? hx, by rw [hm.out]; exact hpm⟩
                  generalize pl v = pv at *
                  generalize pl p = pp at *
                  have hd2 : ¬ (pv < pp) := by omega
                  replace hmv := Lib.hid hmv
                  replace hx := Lib.hid hx
                  go_wp2_with (go_quiet (fail))
                  go_roundg (gk - 1)
                  case measure => omega
                  case rel => exact ⟨e + 1, by go_num, by omega, hmv.out.drewN _⟩
                · replace hmv := Lib.hid hmv
                  replace hx := Lib.hid hx
                  go_wp2_with (go_quiet (fail))
                  go_roundg (gk - 1)
                  case measure => omega
                  case rel => exact ⟨e + 1, by go_num, by omega, hmv.out.drewN _⟩
            · obtain rfl : e = kk := by omega
              replace hmv := Lib.hid hmv
              go_wp2_with fail
              go_roundg (m - (v + 1))
              case measure => omega
              case rel => exact ⟨v + 1, by go_num, by omega, hmv.out⟩
        · obtain rfl : v = m := by omega
          replace hmv := Lib.hid hmv
          go_wp2_with fail
          go_loopg [12] i (fun k x wr => ∃ j, x = .int .i64 (j : Nat) ∧ j + k = i ∧ Mod none_ w5 wr)
          case atStart => exact ⟨0, rfl, by omega, hmv.out⟩
          case round =>
            obtain ⟨j, rfl, hjk, hmj⟩ := hrel
            by_cases hji : j < i
            · obtain ⟨b, o, B, cc, K, hH, hc0, hKj, hrK⟩ := ow_knot hOk.out hji
              subst hH
              obtain ⟨kl, hkl⟩ : ∃ kl, K.length = kl := ⟨_, rfl⟩
              have hkpos : 0 < kl := by rw [← hkl]; exact List.length_pos_iff.2 (row_sorted hF.out hKj).2
              rw [hkl] at hc0 hrK
              have hc1 := (hmr.out.trans hmj).cell_some hc0 (fun h => h)
              obtain ⟨b2, o2, f, hB, hfK, hfc0, hf0⟩ := rdz_get hrK hkpos
              rw [Nat.add_zero] at hfc0
              have hfc := (hmr.out.trans hmj).cell_some hfc0 (fun h => h)
              have hmem : Hid (∀ u ∈ K, u < v) := Lib.hid (fun u hu => by rw [← hm.out]; exact (hF.out.notD u (List.mem_flatten.2 ⟨K, List.mem_of_getElem? hKj, hu⟩)).2)
              have hklv : kl ≤ v := by
                have h1 := pigeon (b := List.range v) ((row_sorted hF.out hKj).1.imp fun {a b} h e => by omega) (fun s hs => List.mem_range.2 (hmem.out s hs))
                rw [List.length_range, hkl] at h1
                exact h1
              have kR1 := Lib.hid (kRe.out wr (hm5.out.trans hmj) f (hmem.out f hfK))
              have hsame := Lib.hid (fun u v (hu : u ∈ K) (hv : v ∈ K) (hne : u ≠ v) => mem_reachL.2 (same_knot hF.out hKj hu hv hne))
              have hrl2 : ∀ x, (reachL g x).length ≤ v := fun x => by
                unfold reachL
                have := List.length_filter_le (fun k => @decide (TC g x k) (Classical.propDecidable _)) (List.range g.length)
                rw [List.length_range] at this
                have e := hm.out
                omega
              have hl1 := hrl2 f
              have hrl3 := Lib.hid hrl2
              unfold ReachPost at kR1
              generalize hL1 : reachL g f = L1 at *
              obtain ⟨n1, hn1⟩ : ∃ n1, L1.length = n1 := ⟨_, rfl⟩
              rw [hn1] at kR1 hl1
              subst hB
              clear hrl2
              have hdist : Hid (∀ q u, 0 < q → K[q]? = some u → u ≠ f) := Lib.hid (fun q u hq hu e => by
                subst e
                have hs := (row_sorted hF.out hKj).1
                have hql : q < K.length := by
                  rcases Nat.lt_or_ge q K.length with h1 | h1
                  · exact h1
                  · rw [List.getElem?_eq_none h1] at hu; cases hu
                have h3 := (List.pairwise_iff_getElem.1 hs) 0 q (by omega) hql hq
                rw [List.getElem?_eq_getElem hql] at hu
                rw [List.getElem?_eq_getElem (show 0 < K.length by omega)] at hf0
                cases hu
                injection hf0 with hf0
                omega)
              replace hmj := Lib.hid hmj
              replace hKj := Lib.hid hKj
              replace hrK := Lib.hid hrK
              replace hkl := Lib.hid hkl
              replace hfK := Lib.hid hfK
              replace hf0 := Lib.hid hf0
              replace hL1 := Lib.hid hL1
              replace hn1 := Lib.hid hn1
              go_wp2_with fail
              refine kR1.out.mono ?_
              rintro e w6 ⟨B1, c1, rfl, ho1, _, hm6⟩
              dsimp only
              have hm56 := Lib.hid (hmj.out.trans hm6)
              have hr1 := Lib.hid (show RdI w6 B1 n1 (zs L1) from Ow.rd ho1)
              clear ho1 hm6
              go_wp2_with fail
              go_loopg [14] (kl - 1) (fun k x wr => ∃ q, x = .int .i64 (q : Nat) ∧ 0 < q ∧ q + k = kl ∧ Mod none_ w6 wr)
              case atStart => exact ⟨1, rfl, by omega, by omega, Mod.refl _ _⟩
              case round =>
                obtain ⟨q, rfl, hq0, hqk, hmq⟩ := hrel
                have hc1 := ((hmr.out.trans hm56.out).trans hmq).cell_some hc0 (fun h => h)
                have hfc := ((hmr.out.trans hm56.out).trans hmq).cell_some hfc0 (fun h => h)
                by_cases hqkl : q < kl
                · obtain ⟨b3, o3, u, hB3, huK, huc0, hu0⟩ := rdz_get hrK.out hqkl
                  cases hB3
                  have huc := ((hmr.out.trans hm56.out).trans hmq).cell_some huc0 (fun h => h)
                  have hne := hdist.out q u hq0 hu0
                  have hin1 : u ∈ L1 := by rw [← hL1.out]; exact hsame.out f u hfK.out huK (Ne.symm hne)
                  have hin2 : f ∈ reachL g u := hsame.out u f huK hfK.out hne
                  have kR2 := Lib.hid (fun W (h : Mod none_ w6 W) => kRe.out W ((hm5.out.trans hm56.out).trans h) u (hmem.out u huK))
                  have hl2 := hrl3.out u
                  unfold ReachPost at kR2
                  generalize hL2 : reachL g u = L2 at *
                  obtain ⟨n2, hn2⟩ : ∃ n2, L2.length = n2 := ⟨_, rfl⟩
                  rw [hn2] at kR2 hl2
                  replace hmq := Lib.hid hmq
                  replace huK := Lib.hid huK
                  replace hu0 := Lib.hid hu0
                  replace hne := Lib.hid hne
                  replace hin1 := Lib.hid hin1
                  replace hin2 := Lib.hid hin2
                  replace hL2 := Lib.hid hL2
                  replace hn2 := Lib.hid hn2
                  go_wp2_with fail
                  go_loopg [15, 16] n1 (fun k x15 x wr => ∃ y, x = .int .i64 (y : Nat) ∧ y + k = n1 ∧ x15 = .bool (decide (u ∈ L1.take y)) ∧ Mod none_ w6 wr)
                  case atStart => exact ⟨0, rfl, by omega, by simp, hmq.out⟩
                  case round =>
                    obtain ⟨y, rfl, hyk, rfl, hmy⟩ := hrel
                    have hc1 := ((hmr.out.trans hm56.out).trans hmy).cell_some hc0 (fun h => h)
                    have hfc := ((hmr.out.trans hm56.out).trans hmy).cell_some hfc0 (fun h => h)
                    have huc := ((hmr.out.trans hm56.out).trans hmy).cell_some huc0 (fun h => h)
                    by_cases hy : y < n1
                    · obtain ⟨b4, o4, z, hB4, _, hzc0, hz0⟩ := rdz_get (Rd.mod0 hr1.out hmy) hy
                      subst hB4
                      have htm := fun x => take_mem_succ (x := x) hz0
                      cases hdd : decide (u ∈ L1.take y) with
                      | true =>
                        have hnx : Hid (decide (u ∈ L1.take (y + 1)) = true) := Lib.hid (decide_eq_true ((htm u).2 (.inl (of_decide_eq_true hdd))))
                        clear htm
                        replace hmy := Lib.hid hmy
                        replace hz0 := Lib.hid hz0
                        replace hdd := Lib.hid hdd
                        go_wp2_with (go_quiet (fail))
                        go_roundg (gk - 1)
                        case measure => omega
                        case rel => exact ⟨y + 1, by go_num, by omega, by rw [hnx.out], hmy.out.drewN _⟩
                      | false =>
                        by_cases hzu : z = u
                        · have hnx : Hid (decide (u ∈ L1.take (y + 1)) = true) := Lib.hid (decide_eq_true ((htm u).2 (.inr hzu.symm)))
                          have hd5 : ((z : Int) == (u : Int)) = true := by simp [hzu]
                          clear htm
                          subst hzu
                          replace hmy := Lib.hid hmy
                          replace hz0 := Lib.hid hz0
                          replace hdd := Lib.hid hdd
                          go_wp2_with (go_quiet (fail))
                          go_roundg (gk - 1)
                          case measure => omega
                          case rel => exact ⟨y + 1, by go_num, by omega, by rw [hnx.out], hmy.out.drewN _⟩
                        · have hnx : Hid (decide (u ∈ L1.take (y + 1)) = false) := Lib.hid (decide_eq_false (fun hh => by
                            rcases (htm u).1 hh with h1 | h1
                            · exact (of_decide_eq_false hdd) h1
                            · exact hzu h1.symm))
                          have hd5 : ((z : Int) == (u : Int)) = false := by simp; omega
                          clear htm
                          replace hmy := Lib.hid hmy
                          replace hz0 := Lib.hid hz0
                          replace hdd := Lib.hid hdd
                          go_wp2_with (go_quiet (fail))
                          go_roundg (gk - 1)
                          case measure => omega
                          case rel => exact ⟨y + 1, by go_num, by omega, by rw [hnx.out], hmy.out.drewN _⟩
                    · obtain rfl : y = n1 := by omega
                      have hte : decide (u ∈ L1.take y) = true := decide_eq_true (by rw [List.take_of_length_le (by rw [hn1.out]; exact Nat.le_refl _)]; exact hin1.out)
                      rw [hte]
                      have kR3 := Lib.hid (kR2.out wr hmy)
                      clear hte
                      replace hmy := Lib.hid hmy
                      go_wp2_with fail
                      refine kR3.out.mono ?_
                      rintro e w7 ⟨B2, c2, rfl, ho2, _, hm7⟩
                      dsimp only
                      have hm67 := Lib.hid (hmy.out.trans hm7)
                      have hr2 := Lib.hid (show RdI w7 B2 n2 (zs L2) from Ow.rd ho2)
                      clear ho2 hm7
                      go_wp2_with fail
                      go_loopg [18, 19] n2 (fun k x18 x wr => ∃ y, x = .int .i64 (y : Nat) ∧ y + k = n2 ∧ x18 = .bool (decide (f ∈ L2.take y)) ∧ Mod none_ w7 wr)
                      case atStart => exact ⟨0, rfl, by omega, by simp, Mod.refl _ _⟩
                      case round =>
                        obtain ⟨y2, rfl, hyk2, rfl, hmy2⟩ := hrel
                        have hc1 := (((hmr.out.trans hm56.out).trans hm67.out).trans hmy2).cell_some hc0 (fun h => h)
                        have hfc := (((hmr.out.trans hm56.out).trans hm67.out).trans hmy2).cell_some hfc0 (fun h => h)
                        by_cases hy2 : y2 < n2
                        · obtain ⟨b4, o4, z, hB4, _, hzc0, hz0⟩ := rdz_get (Rd.mod0 hr2.out hmy2) hy2
                          subst hB4
                          have htm := fun x => take_mem_succ (x := x) hz0
                          cases hdd : decide (f ∈ L2.take y2) with
                          | true =>
                            have hnx : Hid (decide (f ∈ L2.take (y2 + 1)) = true) := Lib.hid (decide_eq_true ((htm f).2 (.inl (of_decide_eq_true hdd))))
                            clear htm
                            replace hmy2 := Lib.hid hmy2
                            replace hz0 := Lib.hid hz0
                            replace hdd := Lib.hid hdd
                            go_wp2_with (go_quiet (fail))
                            go_roundg (gk - 1)
                            case measure => omega
                            case rel => exact ⟨y2 + 1, by go_num, by omega, by rw [hnx.out], hmy2.out.drewN _⟩
                          | false =>
                            by_cases hzu : z = f
                            · have hnx : Hid (decide (f ∈ L2.take (y2 + 1)) = true) := Lib.hid (decide_eq_true ((htm f).2 (.inr hzu.symm)))
                              have hd5 : ((z : Int) == (f : Int)) = true := by simp [hzu]
                              clear htm
                              subst hzu
                              replace hmy2 := Lib.hid hmy2
                              replace hz0 := Lib.hid hz0
                              replace hdd := Lib.hid hdd
                              go_wp2_with (go_quiet (fail))
                              go_roundg (gk - 1)
                              case measure => omega
                              case rel => exact ⟨y2 + 1, by go_num, by omega, by rw [hnx.out], hmy2.out.drewN _⟩
                            · have hnx : Hid (decide (f ∈ L2.take (y2 + 1)) = false) := Lib.hid (decide_eq_false (fun hh => by
                                rcases (htm f).1 hh with h1 | h1
                                · exact (of_decide_eq_false hdd) h1
                                · exact hzu h1.symm))
                              have hd5 : ((z : Int) == (f : Int)) = false := by simp; omega
                              clear htm
                              replace hmy2 := Lib.hid hmy2
                              replace hz0 := Lib.hid hz0
                              replace hdd := Lib.hid hdd
                              go_wp2_with (go_quiet (fail))
                              go_roundg (gk - 1)
                              case measure => omega
                              case rel => exact ⟨y2 + 1, by go_num, by omega, by rw [hnx.out], hmy2.out.drewN _⟩
                        · obtain rfl : y2 = n2 := by omega
                          have hte : decide (f ∈ L2.take y2) = true := decide_eq_true (by rw [List.take_of_length_le (by rw [hn2.out]; exact Nat.le_refl _)]; exact hin2.out)
                          rw [hte]
                          clear hte
                          replace hmy2 := Lib.hid hmy2
                          go_wp2_with fail
                          go_roundg (kl - (q + 1))
                          case measure => omega
                          case rel => exact ⟨q + 1, by go_num, by omega, by omega, hm67.out.trans hmy2.out⟩
                · obtain rfl : q = kl := by omega
                  replace hmq := Lib.hid hmq
                  go_wp2_with fail
                  go_roundg (i - (j + 1))
                  case measure => omega
                  case rel => exact ⟨j + 1, by go_num, by omega, hm56.out.trans hmq.out⟩
            · obtain rfl : j = i := by omega
              replace hmj := Lib.hid hmj
              go_wp2_with fail
              go_ret
              exact ⟨by simp, ((hmw.out.trans hm5.out).trans hmj.out).below0⟩
end Go.Proofs.Ytenlpklgpcnfiaa
