/-
  KnotsBack: the walk.
-/
import Derived.Test.YtenlpklgpcnfiaaKnWh
import Derived.Test.YtenlpklgpcnfiaaKnBkP
namespace Go.Proofs.Ytenlpklgpcnfiaa
set_option linter.unusedVariables false
open Go.RowKit
/-- the ways turned so far -/
structure Bk (g : List (List Int)) (w0 wr : World) (M m i e : Nat) (l : List Int) (sf : Nat → SV) (ls : Nat → List Nat) : Prop where
  mem : BMem w0 wr M m sf ls
  ed : ∀ a, a < m → ∀ x, x ∈ ls a ↔ (x < i ∧ Edge g x a) ∨ (x = i ∧ ∃ j, j < e ∧ l[j]? = some ((a : Nat) : Int))
  le : ∀ a, a < m → (ls a).length ≤ i * 20 + e
section
variable {g : List (List Int)} {w0 wr w' : World} {M m i e : Nat} {l : List Int} {sf : Nat → SV} {ls : Nat → List Nat}
theorem Bk.skip (h : Bk g w0 wr M m i e l sf ls) {x : Int} (hx : l[e]? = some x) (hn : ∀ a : Nat, a < m → x ≠ (a : Int)) : Bk g w0 wr M m i (e + 1) l sf ls := by
  refine ⟨h.mem, fun a ha y => ?_, fun a ha => by have := h.le a ha; omega⟩
  rw [h.ed a ha y]
  constructor
  · rintro (h1 | ⟨h1, j, hj, h2⟩)
    · exact .inl h1
    · exact .inr ⟨h1, j, by omega, h2⟩
  · rintro (h1 | ⟨h1, j, hj, h2⟩)
    · exact .inl h1
    · refine .inr ⟨h1, j, ?_, h2⟩
      rcases Nat.lt_or_ge j e with h3 | h3
      · exact h3
      · obtain rfl : j = e := by omega
        rw [hx] at h2
        cases h2
        exact absurd rfl (hn a ha)
theorem Bk.put (h : Bk g w0 wr M m i e l sf ls) {p : Nat} (hx : l[e]? = some (p : Int)) (hp : p < m) {sf' : Nat → SV} (hm : BMem w0 w' M m sf' (upd ls p (ls p ++ [i]))) : Bk g w0 w' M m i (e + 1) l sf' (upd ls p (ls p ++ [i])) := by
  refine ⟨hm, fun a ha y => ?_, fun a ha => ?_⟩
  · by_cases ea : a = p
    · subst ea
      rw [upd_self, List.mem_append, h.ed a ha y]
      constructor
      · rintro ((h1 | ⟨h1, j, hj, h2⟩) | h1)
        · exact .inl h1
        · exact .inr ⟨h1, j, by omega, h2⟩
        · simp at h1; exact .inr ⟨h1, e, by omega, hx⟩
      · rintro (h1 | ⟨h1, j, hj, h2⟩)
        · exact .inl (.inl h1)
        · exact .inr (by simp [h1])
    · rw [upd_ne _ _ ea, h.ed a ha y]
      constructor
      · rintro (h1 | ⟨h1, j, hj, h2⟩)
        · exact .inl h1
        · exact .inr ⟨h1, j, by omega, h2⟩
      · rintro (h1 | ⟨h1, j, hj, h2⟩)
        · exact .inl h1
        · refine .inr ⟨h1, j, ?_, h2⟩
          rcases Nat.lt_or_ge j e with h3 | h3
          · exact h3
          · obtain rfl : j = e := by omega
            rw [hx] at h2
            exact absurd (by injection h2 with h2; omega) ea
  · by_cases ea : a = p
    · subst ea
      rw [upd_self, List.length_append]
      have := h.le a ha
      simp; omega
    · rw [upd_ne _ _ ea]
      have := h.le a ha
      omega
theorem Bk.done (h : Bk g w0 wr M m i l.length l sf ls) (hl : g[i]? = some l) (hm : g.length = m) (h20 : l.length ≤ 20) : Bk g w0 wr M m (i + 1) 0 [] sf ls := by
  refine ⟨h.mem, fun a ha y => ?_, fun a ha => by have := h.le a ha; omega⟩
  rw [h.ed a ha y]
  constructor
  · rintro (⟨h1, h2⟩ | ⟨rfl, j, hj, h2⟩)
    · exact .inl ⟨by omega, h2⟩
    · exact .inl ⟨by omega, l, hl, List.mem_of_getElem? h2, by omega⟩
  · rintro (⟨h1, h2⟩ | ⟨_, j, hj, _⟩)
    · by_cases e1 : y = i
      · subst e1
        obtain ⟨l', h3, h4, _⟩ := h2
        rw [hl] at h3
        cases h3
        obtain ⟨j, hj, e2⟩ := List.getElem_of_mem h4
        exact .inr ⟨rfl, j, hj, by rw [List.getElem?_eq_getElem hj, e2]⟩
      · exact .inl ⟨by omega, h2⟩
    · exact absurd hj (Nat.not_lt_zero j)
theorem Bk.turned (h : Bk g w0 wr M m g.length 0 [] sf ls) (hm : g.length = m) : Turned g (gB m ls) := by
  subst hm
  refine gB_turned fun a ha x => ?_
  rw [h.ed a ha x]
  exact ⟨fun h1 => h1.elim (fun h2 => h2.2) fun ⟨_, j, hj, _⟩ => absurd hj (Nat.not_lt_zero j), fun h1 => .inl ⟨h1.lt.1, h1⟩⟩
end
theorem few_rows {N : Nat} {g : List (List Int)} : ∀ l ∈ fewG N g, l.length ≤ 20 := by
  intro l hl
  unfold fewG at hl
  obtain ⟨q, _, rfl⟩ := List.mem_map.1 hl
  rw [List.length_take]
  omega
set_option maxRecDepth 100000 in
set_option maxHeartbeats 16000000 in
theorem knotsBack_walk (w : World) (A : Option Addr) (n c : Nat) (ss : List SV) (g0 : List (List Int)) (hg0 : RdG w A n ss g0) :
    Calls Try.prog 6 #[.slice A n c] w fun e w' => e = .returned (.bool true) ∧ Below w.heap.size w w' := by
  have k0 := Lib.hid (lives_ok w)
  have k1 := Lib.hid (fun W (h : Mod none_ w W) => few_ok W A n c ss g0 (hg0.mod0 h) 25 (by omega))
  replace hg0 := Lib.hid hg0
  go_enter Try.func6, Try.ntmps6
  go_wp2_with fail
  with_reducible refine k0.out.mono ?_
  rintro e w1 ⟨rfl, hm1⟩
  dsimp only
  have k2 := Lib.hid (k1.out w1 hm1)
  replace hm1 := Lib.hid hm1
  go_wp2_with fail
  refine k2.out.mono ?_
  rintro e w2 ⟨G, d, ts, rfl, hO, hfG, hm2⟩
  dsimp only
  have hgl0 := fewG_len 25 g0
  have hrow := Lib.hid (few_rows (N := 25) (g := g0))
  generalize fewG 25 g0 = g at *
  obtain ⟨m, hm⟩ : ∃ m, g.length = m := ⟨_, rfl⟩
  have hm25 : m ≤ 25 := by omega
  clear hgl0
  have hgr := Lib.hid hO.rd
  rw [hm] at hO hgr ⊢
  have hmw := hm1.out.trans hm2
  have kK := Lib.hid (fun W (h : Mod none_ w2 W) => knots_ok W G m d ts g (hgr.out.mod0 h) (by omega))
  have kRe := Lib.hid (fun W (h : Mod none_ w2 W) f (hf : f < m) => reach_ok W G m d ts g (hgr.out.mod0 h) (by omega) f hf)
  have hmk := fun W => make_run (P := Try.prog) W 22 28 _ 24 m Try.underlying22 slginfo rfl (by omega) (by omega)
  have hb0 : Bk g w2 (w2.alloc (.cells (madeCells #[.slice none 0 0] m) 28)) w2.heap.size m 0 0 [] (fun _ => ⟨none, 0, 0⟩) (fun _ => []) := by
    refine ⟨⟨(Mod.refl none_ w2).alloc _, Nat.le_refl _, by rw [made_rowS]; exact Blk.new w2 _ _, fun a _ => Ow.nil _ _ _, fun a _ x hx => (by cases hx), fun a b _ _ _ k hk => (by obtain ⟨x, hx, _⟩ := hk; cases hx)⟩, fun a _ x => ⟨fun h => (by cases h), fun h => ?_⟩, fun a _ => Nat.zero_le _⟩
    rcases h with ⟨h1, _⟩ | ⟨_, j, hj, _⟩
    · exact absurd h1 (Nat.not_lt_zero _)
    · exact absurd hj (Nat.not_lt_zero _)
  replace hO := Lib.hid hO
  replace hfG := Lib.hid hfG
  replace hm2 := Lib.hid hm2
  replace hm := Lib.hid hm
  replace hmw := Lib.hid hmw
  replace hb0 := Lib.hid hb0
  go_wp2_with fail
  go_loopg [4] m (fun k v wr => ∃ i sf ls, v = .int .i64 (i : Nat) ∧ i + k = m ∧ Bk g w2 wr w2.heap.size m i 0 [] sf ls)
  case atStart => exact ⟨0, _, _, rfl, by omega, hb0.out⟩
  case round =>
    obtain ⟨i, sf, ls, rfl, hik, hbk⟩ := hrel
    by_cases hlt : i < m
    · obtain ⟨b, o, B, kk, cc, l, hG, hc0, hgi, hrd, hkc, hkb⟩ := hgr.out.get hlt
      subst hG
      have hll := hrd.len
      have h20 : kk ≤ 20 := by rw [← hll]; exact hrow.out l (List.mem_of_getElem? hgi)
      have hc1 := hbk.mem.m0.cell_some hc0 (fun h => h)
      have hbk0 : Hid (Bk g w2 wr w2.heap.size m i 0 l sf ls) := Lib.hid ⟨hbk.mem, fun a ha x => by
        rw [hbk.ed a ha x]
        exact ⟨fun h => h.elim .inl fun ⟨_, j, hj, _⟩ => absurd hj (Nat.not_lt_zero j), fun h => h.elim .inl fun ⟨_, j, hj, _⟩ => absurd hj (Nat.not_lt_zero j)⟩, hbk.le⟩
      replace hbk := Lib.hid hbk
      replace hgi := Lib.hid hgi
      replace hrd := Lib.hid hrd
      replace hkc := Lib.hid hkc
      replace hll := Lib.hid hll
      go_wp2_with fail
      go_loopg [5] kk (fun k2 v wr => ∃ e sf ls, v = .int .i64 (e : Nat) ∧ e + k2 = kk ∧ Bk g w2 wr w2.heap.size m i e l sf ls)
      case atStart => exact ⟨0, sf, ls, rfl, by omega, hbk0.out⟩
      case round =>
        obtain ⟨e, sf, ls, rfl, hek, hbk⟩ := hrel
        have hc1 := hbk.mem.m0.cell_some hc0 (fun h => h)
        by_cases hle : e < kk
        · obtain ⟨b2, o2, hB, hxl, hx0⟩ := rdi_get (Rd.mod0 hrd.out hbk.mem.m0) hle
          have hx : l[e]? = some l[e] := List.getElem?_eq_getElem hxl
          generalize l[e] = x at hx hx0
          subst hB
          by_cases hneg : x < 0
          · have hd1 : ¬ (0 ≤ x) := by omega
            have hsk := hbk.skip hx (fun a _ => by omega)
            replace hbk := Lib.hid hbk
            replace hx := Lib.hid hx
            replace hsk := Lib.hid hsk
            go_wp2_with fail
            go_roundg (gk - 1)
            case measure => omega
            case rel => exact ⟨e + 1, sf, ls, by go_num, by omega, hsk.out⟩
          · obtain ⟨p, rfl⟩ : ∃ p : Nat, x = (p : Int) := ⟨x.toNat, by omega⟩
            by_cases hpm : p < m
            · have xM := hbk.mem.bM.cell_ (rowS_get sf hpm)
              have hOa := hbk.mem.own p hpm
              have hla := hOa.len
              rw [zs_len] at hla
              have hsl : (sf p).n ≤ 1000 := by have := hbk.le p hpm; omega
              have hnx := Lib.hid (fun (o : Obj) W' (hm : Mod (fp (sf p).a) (wr.alloc o) W') =>
                (show W'.cell? ⟨w2.heap.size, p, none⟩ = some (.slice (sf p).a (sf p).n (sf p).c) ∧ W'.frozen? ⟨w2.heap.size, p, none⟩ = false from by
                  have h1 := (hbk.mem.bM.alloc o).mod hm (Ow.ne_blk (hbk.mem.own p hpm) hbk.mem.bM (by decide))
                  exact ⟨h1.cell_ (rowS_get sf hpm), h1.frozen p⟩))
              have hkm := Lib.hid (fun (o : Obj) W' A' c' (hO : OwZ W' A' ((sf p).n + 1) c' (zs (ls p) ++ [(i : Int)])) (hm : Mod (fp (sf p).a) (wr.alloc o) W') (hA : A' = (sf p).a ∨ A' = some ⟨(wr.alloc o).heap.size, 0, none⟩) =>
                hbk.put hx hpm ((hbk.mem.mod0 ((Mod.refl none_ wr).alloc o)).app hpm hO hm hA))
              obtain ⟨sa, sn, sc, hsa⟩ : ∃ x y z, sf p = ⟨x, y, z⟩ := ⟨_, _, _, rfl⟩
              rw [hsa] at xM hOa hsl hnx hkm
              dsimp only at xM hOa hsl hnx hkm
              replace hbk := Lib.hid hbk
              replace hx := Lib.hid hx
              replace hOa := Lib.hid hOa
              replace hla := Lib.hid hla
              replace hsa := Lib.hid hsa
              go_wp2_with (at_builtin; go_loud (refine appZ rfl (.tmp 60) (.tmp 62) rfl rfl (Ow.mod0 hOa.out ((Mod.refl none_ _).alloc _)) rfl (rdi_one _ _ (i : Int)) (by omega) ?_; intro A' c' w3 ho3 hm3 hA3; obtain ⟨r1, r2⟩ := hnx.out _ _ hm3; replace hkm := Lib.hid (hkm.out _ _ _ _ ho3 hm3 hA3); replace ho3 := Lib.hid ho3; replace hm3 := Lib.hid hm3; replace hA3 := Lib.hid hA3))
              go_roundg (gk - 1)
              case measure => omega
              case rel => exact ⟨e + 1, _, _, by go_num, by omega, hkm.out⟩
            · have hsk := hbk.skip hx (fun a ha => by omega)
              replace hbk := Lib.hid hbk
              replace hx := Lib.hid hx
              replace hsk := Lib.hid hsk
              go_wp2_with fail
              go_roundg (gk - 1)
              case measure => omega
              case rel => exact ⟨e + 1, sf, ls, by go_num, by omega, hsk.out⟩
        · obtain rfl : e = kk := by omega
          have hdn : Hid (Bk g w2 wr w2.heap.size m (i + 1) 0 [] sf ls) := Lib.hid (by
            refine Bk.done (l := l) ?_ hgi.out hm.out (by rw [hll.out]; exact h20)
            rw [hll.out]; exact hbk)
          replace hbk := Lib.hid hbk
          go_wp2_with fail
          go_roundg (m - (i + 1))
          case measure => omega
          case rel => exact ⟨i + 1, sf, ls, by go_num, by omega, hdn.out⟩
    · obtain rfl : i = m := by omega
      have htn : Turned g (gB i ls) := Bk.turned (by rw [hm.out]; exact hbk) hm.out
      have hgb : RdG wr (some ⟨w2.heap.size, 0, none⟩) i ((List.range i).map sf) (gB i ls) := hbk.mem.rdg (fun a ha => by
        have h1 := (hbk.mem.own a ha).len
        have h2 := hbk.le a ha
        rw [zs_len] at h1
        omega)
      have hm2r := hbk.mem.m0
      generalize gB i ls = gb at *
      generalize (List.range i).map sf = sb at *
      obtain ⟨w5, hw5⟩ : ∃ w5, w5 = wr := ⟨_, rfl⟩
      rw [← hw5] at hgb hm2r
      have kA := Lib.hid (kK.out wr (by rw [← hw5]; exact hm2r))
      have kB := Lib.hid (fun W (h : Mod none_ w5 W) => knots_ok W (some ⟨w2.heap.size, 0, none⟩) i i sb gb (hgb.mod0 h) (by omega))
      have kReB := Lib.hid (fun W (h : Mod none_ w5 W) f (hf : f < i) => reach_ok W (some ⟨w2.heap.size, 0, none⟩) i i sb gb (hgb.mod0 h) (by omega) f hf)
      clear hbk
      replace htn := Lib.hid htn
      replace hgb := Lib.hid hgb
      replace hm2r := Lib.hid hm2r
      replace hw5 := Lib.hid hw5
      go_wp2_with fail
      refine kA.out.mono ?_
      rintro e w6 ⟨ka, hsa, Ha, ca, sa, rfl, hOa, _, hm6⟩
      dsimp only
      have hm56 : Mod none_ w5 w6 := by rw [hw5.out]; exact hm6
      have kB2 := Lib.hid (kB.out w6 hm56)
      clear hm6
      replace hOa := Lib.hid hOa
      replace hm56 := Lib.hid hm56
      go_wp2_with fail
      refine kB2.out.mono ?_
      rintro e w7 ⟨kb, hsb, Hb, cb, sb2, rfl, hOb, _, hm67⟩
      dsimp only
      have hFa := knots_facts hsa
      have hFb := knots_facts hsb
      have hlen := htn.out.len hFa hFb
      have hOa7 := hOa.out.mod0 hm67
      have hm57 := hm56.out.trans hm67
      have hra : ka.length ≤ i := by rw [← hm.out, ← flat_len hFa]; exact len_flat fun K hK => by obtain ⟨j, hj, e⟩ := List.getElem_of_mem hK; exact (row_sorted hFa (by rw [List.getElem?_eq_getElem hj, e])).2
      have hhas := Lib.hid (fun K (hK : K ∈ ka) => htn.out.has hFa hFb hK)
      have hkl : Hid (∀ K ∈ ka, K.length ≤ i) := Lib.hid (fun K hK => by
        obtain ⟨j, hj, e⟩ := List.getElem_of_mem hK
        have h1 := pigeon (b := List.range i) ((row_sorted hFa (by rw [List.getElem?_eq_getElem hj, e])).1.imp fun {a b} h e => by omega) (fun s hs => List.mem_range.2 (by rw [← hm.out]; exact (hFa.notD s (List.mem_flatten.2 ⟨K, hK, hs⟩)).2))
        rwa [List.length_range] at h1)
      have hklb : Hid (∀ K ∈ kb, K.length ≤ i) := Lib.hid (fun K hK => by
        obtain ⟨j, hj, e⟩ := List.getElem_of_mem hK
        have h1 := pigeon (b := List.range i) ((row_sorted hFb (by rw [List.getElem?_eq_getElem hj, e])).1.imp fun {a b} h e => by omega) (fun s hs => List.mem_range.2 (by rw [← hm.out, ← htn.out.1]; exact (hFb.notD s (List.mem_flatten.2 ⟨K, hK, hs⟩)).2))
        rwa [List.length_range] at h1)
      obtain ⟨r, hr⟩ : ∃ r, ka.length = r := ⟨_, rfl⟩
      have hrb : kb.length = r := by omega
      rw [hr] at hOa7 hra ⊢
      rw [hrb] at hOb ⊢
      clear kA kB kB2 hOa hlen
      replace hsa := Lib.hid hsa
      replace hsb := Lib.hid hsb
      replace hOb := Lib.hid hOb
      replace hFa := Lib.hid hFa
      replace hFb := Lib.hid hFb
      replace hOa7 := Lib.hid hOa7
      replace hm57 := Lib.hid hm57
      replace hm67 := Lib.hid hm67
      replace hr := Lib.hid hr
      replace hrb := Lib.hid hrb
      replace hm56 := Lib.hid hm56
      go_wp2_with fail
      go_loopg [9] r (fun k v wr => ∃ j, v = .int .i64 (j : Nat) ∧ j + k = r ∧ Mod none_ w7 wr)
      case atStart => exact ⟨0, rfl, by omega, Mod.refl _ _⟩
      case round =>
        obtain ⟨j, rfl, hjk, hmj⟩ := hrel
        by_cases hjr : j < r
        · obtain ⟨b, o, B, cc, K, hHa, hc0, hKj, hrK⟩ := ow_knot hOa7.out hjr
          subst hHa
          have hKm : K ∈ ka := List.mem_of_getElem? hKj
          have hKl := hkl.out K hKm
          obtain ⟨pos, hpos, hpe⟩ := List.getElem_of_mem (hhas.out K hKm)
          rw [hrb.out] at hpos
          have hpg : kb[pos]? = some K := by rw [List.getElem?_eq_getElem (by rw [hrb.out]; exact hpos), hpe]
          obtain ⟨kl, hkl2⟩ : ∃ kl, K.length = kl := ⟨_, rfl⟩
          rw [hkl2] at hc0 hrK hKl
          replace hmj := Lib.hid hmj
          replace hKj := Lib.hid hKj
          replace hrK := Lib.hid hrK
          replace hKm := Lib.hid hKm
          replace hpe := Lib.hid hpe
          replace hpg := Lib.hid hpg
          replace hkl2 := Lib.hid hkl2
          go_wp2_with fail
          go_loopg [10, 11] r (fun k v10 v wr => ∃ y, v = .int .i64 (y : Nat) ∧ y + k = r ∧ v10 = .int .i64 ((if y ≤ pos then 0 else 1 : Nat) : Int) ∧ Mod none_ w7 wr)
          case atStart => exact ⟨0, rfl, by omega, by simp, hmj.out⟩
          case round =>
            obtain ⟨y, rfl, hyk, rfl, hmy⟩ := hrel
            by_cases hy : y < r
            · obtain ⟨b', o', B', cc', K', hHb, hc0', hKy, hrK'⟩ := ow_knot hOb.out hy
              subst hHb
              have hc1 := hmy.cell_some hc0 (fun h => h)
              have hc1' := hmy.cell_some hc0' (fun h => h)
              have hKl' := hklb.out K' (List.mem_of_getElem? hKy)
              obtain ⟨kl', hkl2'⟩ : ∃ kl', K'.length = kl' := ⟨_, rfl⟩
              rw [hkl2'] at hc1' hrK' hKl'
              have kS := Lib.hid (fun q => sameZ_ok (wr.drewN q) B B' kl kl' cc cc' _ _ (Rd.mod0 hrK.out (hmy.drewN q)) (Rd.mod0 hrK' (hmy.drewN q)) (by omega) (by omega))
              by_cases hyp : y = pos
              · have hKK : K' = K := by rw [hyp, hpg.out] at hKy; cases hKy; rfl
                have hdd : decide (zs K = zs K') = true := decide_eq_true (by rw [hKK])
                rw [hdd] at kS
                have e0 : ((if y ≤ pos then 0 else 1 : Nat) : Int) = 0 := by rw [if_pos (by omega)]; rfl
                have e1 : ((if y + 1 ≤ pos then 0 else 1 : Nat) : Int) = 1 := by rw [if_neg (by omega)]; rfl
                rw [e0]
                clear hc0'
                replace hmy := Lib.hid hmy
                replace hKy := Lib.hid hKy
                replace hrK' := Lib.hid hrK'
                replace hkl2' := Lib.hid hkl2'
                replace hKK := Lib.hid hKK
                replace hdd := Lib.hid hdd
                replace e1 := Lib.hid e1
                replace e0 := Lib.hid e0
                replace hyp := Lib.hid hyp
                go_wp2_with (go_quiet ((go_at_call 12; exact Calls.quiet_of (kS.out _))))
                go_roundg (gk - 1)
                case measure => omega
                case rel => exact ⟨y + 1, by go_num, by omega, by rw [e1.out], hmy.out.drewN _⟩
              · have hKK : K' ≠ K := fun e => hyp (hFb.out.uniq (by rw [e] at hKy; exact hKy) hpg.out)
                have hdd : decide (zs K = zs K') = false := decide_eq_false (fun e => hKK (zs_inj e).symm)
                rw [hdd] at kS
                have e1 : (if y + 1 ≤ pos then 0 else 1 : Nat) = (if y ≤ pos then 0 else 1) := by
                  by_cases h : y ≤ pos
                  · rw [if_pos h, if_pos (by omega)]
                  · rw [if_neg h, if_neg (by omega)]
                generalize (if y ≤ pos then 0 else 1) = cv at *
                clear hc0'
                replace hmy := Lib.hid hmy
                replace hKy := Lib.hid hKy
                replace hrK' := Lib.hid hrK'
                replace hkl2' := Lib.hid hkl2'
                replace hKK := Lib.hid hKK
                replace hdd := Lib.hid hdd
                replace e1 := Lib.hid e1
                replace hyp := Lib.hid hyp
                go_wp2_with (go_quiet ((go_at_call 12; exact Calls.quiet_of (kS.out _))))
                go_roundg (gk - 1)
                case measure => omega
                case rel => exact ⟨y + 1, by go_num, by omega, by rw [e1.out], hmy.out.drewN _⟩
            · obtain rfl : y = r := by omega
              have e0 : ((if y ≤ pos then 0 else 1 : Nat) : Int) = 1 := by rw [if_neg (by omega)]; rfl
              rw [e0]
              replace hmy := Lib.hid hmy
              replace e0 := Lib.hid e0
              go_wp2_with fail
              go_roundg (y - (j + 1))
              case measure => omega
              case rel => exact ⟨j + 1, by go_num, by omega, hmy.out⟩
        · obtain rfl : j = r := by omega
          replace hmj := Lib.hid hmj
          go_wp2_with fail
          go_loopg [12] i (fun k v wr => ∃ q, v = .int .i64 (q : Nat) ∧ q + k = i ∧ Mod none_ w7 wr)
          case atStart => exact ⟨0, rfl, by omega, hmj.out⟩
          case round =>
            obtain ⟨q, rfl, hqk, hmq⟩ := hrel
            by_cases hqi : q < i
            · have kR1 := Lib.hid (kRe.out wr ((hm2r.out.trans hm57.out).trans hmq) q hqi)
              have hrl2 : ∀ x, (reachL g x).length ≤ i := fun x => by
                unfold reachL
                have := List.length_filter_le (fun k => @decide (TC g x k) (Classical.propDecidable _)) (List.range g.length)
                rw [List.length_range] at this
                have e := hm.out
                omega
              have hrl3 : Hid (∀ x, (reachL gb x).length ≤ i) := Lib.hid (fun x => by
                unfold reachL
                have := List.length_filter_le (fun k => @decide (TC gb x k) (Classical.propDecidable _)) (List.range gb.length)
                rw [List.length_range] at this
                have e2 := htn.out.1
                have e := hm.out
                omega)
              have hl1 := hrl2 q
              have hback := Lib.hid (fun x (hx : x ∈ reachL g q) => (show x < i ∧ q ∈ reachL gb x from by
                have h1 := mem_reachL.1 hx
                exact ⟨by have := h1.lt; rw [hm.out] at this; exact this, mem_reachL.2 (htn.out.tc.2 h1)⟩))
              unfold ReachPost at kR1
              generalize reachL g q = L1 at *
              obtain ⟨n1, hn1⟩ : ∃ n1, L1.length = n1 := ⟨_, rfl⟩
              rw [hn1] at kR1 hl1
              clear hrl2
              replace hmq := Lib.hid hmq
              replace hn1 := Lib.hid hn1
              go_wp2_with fail
              refine kR1.out.mono ?_
              rintro e w8 ⟨B1, c1, rfl, ho1, _, hm8⟩
              dsimp only
              have hm78 := Lib.hid (hmq.out.trans hm8)
              have hr1 := Lib.hid (show RdI w8 B1 n1 (zs L1) from Ow.rd ho1)
              clear ho1 hm8
              go_wp2_with fail
              go_loopg [14] n1 (fun k v wr => ∃ y, v = .int .i64 (y : Nat) ∧ y + k = n1 ∧ Mod none_ w8 wr)
              case atStart => exact ⟨0, rfl, by omega, Mod.refl _ _⟩
              case round =>
                obtain ⟨y, rfl, hyk, hmy⟩ := hrel
                by_cases hy : y < n1
                · obtain ⟨b4, o4, x, hB4, hxm, hxc0, _⟩ := rdz_get hr1.out hy
                  have hxc := hmy.cell_some hxc0 (fun h => h)
                  obtain ⟨hxi, hqx⟩ := hback.out x hxm
                  have kR2 := Lib.hid (kReB.out wr ((hm57.out.trans hm78.out).trans hmy) x hxi)
                  have hl2 := hrl3.out x
                  unfold ReachPost at kR2
                  generalize reachL gb x = L2 at *
                  obtain ⟨n2, hn2⟩ : ∃ n2, L2.length = n2 := ⟨_, rfl⟩
                  rw [hn2] at kR2 hl2
                  subst hB4
                  clear hxc0
                  replace hmy := Lib.hid hmy
                  replace hxm := Lib.hid hxm
                  replace hqx := Lib.hid hqx
                  replace hn2 := Lib.hid hn2
                  go_wp2_with fail
                  refine kR2.out.mono ?_
                  rintro e w9 ⟨B2, c2, rfl, ho2, _, hm9⟩
                  dsimp only
                  have hm89 := Lib.hid (hmy.out.trans hm9)
                  have hr2 := Lib.hid (show RdI w9 B2 n2 (zs L2) from Ow.rd ho2)
                  clear ho2 hm9
                  go_wp2_with fail
                  go_loopg [16, 17] n2 (fun k v16 v wr => ∃ z, v = .int .i64 (z : Nat) ∧ z + k = n2 ∧ v16 = .bool (decide (q ∈ L2.take z)) ∧ w9 = wr)
                  case atStart => exact ⟨0, rfl, by omega, by simp, rfl⟩
                  case round =>
                    obtain ⟨z, rfl, hzk, rfl, rfl⟩ := hrel
                    by_cases hz : z < n2
                    · obtain ⟨b5, o5, u, hB5, _, huc0, hu0⟩ := rdz_get hr2.out hz
                      subst hB5
                      have htm := fun x => take_mem_succ (x := x) hu0
                      cases hdd : decide (q ∈ L2.take z) with
                      | true =>
                        have hnx : Hid (decide (q ∈ L2.take (z + 1)) = true) := Lib.hid (decide_eq_true ((htm q).2 (.inl (of_decide_eq_true hdd))))
                        clear htm
                        replace hu0 := Lib.hid hu0
                        replace hdd := Lib.hid hdd
                        go_wp2_with fail
                        go_roundg (gk - 1)
                        case measure => omega
                        case rel => exact ⟨z + 1, by go_num, by omega, by rw [hnx.out], rfl⟩
                      | false =>
                        by_cases hzu : u = q
                        · have hnx : Hid (decide (q ∈ L2.take (z + 1)) = true) := Lib.hid (decide_eq_true ((htm q).2 (.inr hzu.symm)))
                          have hd5 : ((u : Int) == (q : Int)) = true := by simp [hzu]
                          clear htm
                          replace hu0 := Lib.hid hu0
                          replace hdd := Lib.hid hdd
                          replace hzu := Lib.hid hzu
                          go_wp2_with fail
                          go_roundg (gk - 1)
                          case measure => omega
                          case rel => exact ⟨z + 1, by go_num, by omega, by rw [hnx.out], rfl⟩
                        · have hnx : Hid (decide (q ∈ L2.take (z + 1)) = false) := Lib.hid (decide_eq_false (fun hh => by
                            rcases (htm q).1 hh with h1 | h1
                            · exact (of_decide_eq_false hdd) h1
                            · exact hzu h1.symm))
                          have hd5 : ((u : Int) == (q : Int)) = false := by simp; omega
                          clear htm
                          replace hu0 := Lib.hid hu0
                          replace hdd := Lib.hid hdd
                          replace hzu := Lib.hid hzu
                          go_wp2_with fail
                          go_roundg (gk - 1)
                          case measure => omega
                          case rel => exact ⟨z + 1, by go_num, by omega, by rw [hnx.out], rfl⟩
                    · obtain rfl : z = n2 := by omega
                      have hte : decide (q ∈ L2.take z) = true := decide_eq_true (by rw [List.take_of_length_le (by rw [hn2.out]; exact Nat.le_refl _)]; exact hqx.out)
                      rw [hte]
                      clear hte
                      go_wp2_with fail
                      go_roundg (n1 - (y + 1))
                      case measure => omega
                      case rel => exact ⟨y + 1, by go_num, by omega, hm89.out⟩
                · obtain rfl : y = n1 := by omega
                  replace hmy := Lib.hid hmy
                  go_wp2_with fail
                  go_roundg (i - (q + 1))
                  case measure => omega
                  case rel => exact ⟨q + 1, by go_num, by omega, hm78.out.trans hmy.out⟩
            · obtain rfl : q = i := by omega
              replace hmq := Lib.hid hmq
              go_wp2_with fail
              go_ret
              exact ⟨by simp, (((hmw.out.trans hm2r.out).trans hm57.out).trans hmq.out).below0⟩
end Go.Proofs.Ytenlpklgpcnfiaa
