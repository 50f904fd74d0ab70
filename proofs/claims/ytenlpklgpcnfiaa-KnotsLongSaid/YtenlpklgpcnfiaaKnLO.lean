/-
  KnotsOpen: the walk.
-/
import Derived.Test.YtenlpklgpcnfiaaKnV
namespace Go.Proofs.Ytenlpklgpcnfiaa
set_option linter.unusedVariables false
open Go.RowKit
theorem pickI_mem {s : Nat → Bool} {n i : Nat} : i ∈ pickI s n ↔ i < n ∧ s i = true := by
  unfold pickI
  rw [List.mem_filter, List.mem_range]
theorem pickI_all {s : Nat → Bool} {n : Nat} (h : ∀ i, i < n → s i = true) : (pickI s n).length = n := by
  unfold pickI
  rw [List.filter_eq_self.2 (fun i hi => h i (List.mem_range.1 hi)), List.length_range]
theorem pickI_no {s : Nat → Bool} {n : Nat} (h : ∀ i, i < n → s i = false) : pickI s n = [] := by
  unfold pickI
  rw [List.filter_eq_nil_iff]
  intro i hi
  rw [h i (List.mem_range.1 hi)]
  simp
theorem openB_iff {g : List (List Int)} {known : List Bool} {i : Nat} : openB g known i = true ↔ isK known i = true ∧ ∀ k, TC g i k → isK known k = true := by
  classical
  unfold openB
  rw [Bool.and_eq_true, decide_eq_true_iff]
theorem openL_mem {g : List (List Int)} {known : List Bool} {i : Nat} : i ∈ openL g known ↔ i < g.length ∧ isK known i = true ∧ ∀ k, TC g i k → isK known k = true := by
  unfold openL
  rw [pickI_mem, openB_iff]
/-- a row of truths as a list -/
def rowB (n : Nat) (f : Nat → Bool) : List Bool := (List.range n).map f
theorem rowT_tvs (n : Nat) (f : Nat → Bool) : rowT n f = (tvs (rowB n f)).toArray := by simp [rowT, tvs, rowB]
theorem rowB_isK {n i : Nat} (f : Nat → Bool) (h : i < n) : isK (rowB n f) i = f i := by simp [isK, rowB, List.getD, h]
theorem rowT_rd {w : World} {b n : Nat} {f : Nat → Bool} (h : Blk w b 4 (rowT n f)) : Rd w 1 (some ⟨b, 0, none⟩) n (tvs (rowB n f)) := by
  refine ⟨by simp [tvs, rowB], fun _ => ⟨_, rfl, fun j u hu => ?_⟩⟩
  rw [add_lit, h.cell, rowT_tvs]
  simpa using hu
theorem open_all (g : List (List Int)) : (openL g (rowB g.length fun _ => true)).length = g.length :=
  pickI_all fun i hi => openB_iff.2 ⟨rowB_isK _ hi, fun k hk => rowB_isK _ hk.lt⟩
theorem open_none (g : List (List Int)) : openL g [] = [] :=
  pickI_no fun i hi => by
    cases h : openB g [] i with
    | false => rfl
    | true => exact absurd (openB_iff.1 h).1 (by simp [isK])
theorem open_more {g : List (List Int)} {known : List Bool} {k : Nat} : ∀ i ∈ openL g known, i ∈ openL g (rowB g.length fun i => isK known i || i == k) := by
  intro i hi
  obtain ⟨h1, h2, h3⟩ := openL_mem.1 hi
  exact openL_mem.2 ⟨h1, by rw [rowB_isK _ h1, h2]; rfl, fun j hj => by rw [rowB_isK _ hj.lt, h3 j hj]; rfl⟩
theorem open_cl {g : List (List Int)} {known : List Bool} {i j : Nat} (hi : i ∈ openL g known) (hj : j ∈ reachL g i) : j ∈ openL g known := by
  obtain ⟨_, _, h3⟩ := openL_mem.1 hi
  have hj' := mem_reachL.1 hj
  exact openL_mem.2 ⟨hj'.lt, h3 j hj', fun k hk => h3 k (hj'.trans hk)⟩
theorem open_new {g : List (List Int)} {known : List Bool} {k i : Nat} (hi : i ∈ openL g (rowB g.length fun i => isK known i || i == k)) : i ∈ openL g known ∨ i = k ∨ k ∈ reachL g i := by
  obtain ⟨h1, h2, h3⟩ := openL_mem.1 hi
  rw [rowB_isK _ h1] at h2
  by_cases e1 : i = k
  · exact .inr (.inl e1)
  · have h4 : isK known i = true := by simpa [e1] using h2
    by_cases h5 : ∀ j, TC g i j → isK known j = true
    · exact .inl (openL_mem.2 ⟨h1, h4, h5⟩)
    · obtain ⟨j, hj⟩ := Classical.not_forall.1 h5
      obtain ⟨hj1, hj2⟩ := Classical.not_imp.1 hj
      have h6 := h3 j hj1
      rw [rowB_isK _ hj1.lt] at h6
      have : j = k := by
        have : isK known j = false := by simpa using hj2
        rw [this] at h6
        simpa using h6
      subst this
      exact .inr (.inr (mem_reachL.2 hj1))
theorem rdz_get {w : World} {A : Option Addr} {n : Nat} {L : List Nat} (h : RdI w A n (zs L)) {j : Nat} (hj : j < n) : ∃ b o x, A = some ⟨b, o, none⟩ ∧ x ∈ L ∧ w.cell? ⟨b, o + j, none⟩ = some (.int .i64 (x : Int)) ∧ L[j]? = some x := by
  obtain ⟨b, o, hA, hl, hc⟩ := rdi_get h hj
  have hjL : j < L.length := by rw [zs_len] at hl; exact hl
  refine ⟨b, o, L[j], hA, List.getElem_mem hjL, ?_, List.getElem?_eq_getElem hjL⟩
  rw [hc]
  simp [zs]
theorem zs_mem {l : List Nat} {k : Nat} : (k : Int) ∈ zs l ↔ k ∈ l := by
  unfold zs
  rw [List.mem_map]
  exact ⟨fun ⟨x, hx, e⟩ => by rwa [show x = k by omega] at hx, fun h => ⟨k, h, rfl⟩⟩
set_option maxRecDepth 100000 in
set_option maxHeartbeats 8000000 in
theorem knotsOpen_walk (w : World) (A : Option Addr) (n c : Nat) (ss : List SV) (g0 : List (List Int)) (hg0 : RdG w A n ss g0) (KA : Option Addr) (kn kc : Nat) (known : List Bool) (hk : Rd w 1 KA kn (tvs known)) (hkn : kn ≤ 140737488355328) (at_ : Int) :
    Calls Try.prog 7 #[.slice A n c, .slice KA kn kc, .int .i64 at_] w fun e w' => e = .returned (.bool true) ∧ Below w.heap.size w w' := by
  have k0 := Lib.hid (lives_ok w)
  have k1 := Lib.hid (fun W (h : Mod none_ w W) => few_ok W A n c ss g0 (hg0.mod0 h) 25 (by omega))
  replace hg0 := Lib.hid hg0
  replace hk := Lib.hid hk
  go_enter Try.func7, Try.ntmps7
  go_wp2_with fail
  with_reducible refine k0.out.mono ?_
  rintro e w1 ⟨rfl, hm1⟩
  dsimp only
  have k2 := Lib.hid (k1.out w1 hm1)
  replace hm1 := Lib.hid hm1
  go_wp2_with fail
  refine k2.out.mono ?_
  rintro e w2 ⟨G, d, ts, rfl, hO, hfG, hm2⟩
  dsimp only
  have hgl0 := fewG_len 25 g0
  generalize fewG 25 g0 = g at *
  obtain ⟨m, hm⟩ : ∃ m, g.length = m := ⟨_, rfl⟩
  have hm25 : m ≤ 25 := by omega
  clear hgl0
  have hgr := Lib.hid hO.rd
  rw [hm] at hO hgr ⊢
  have hmk := fun W => make_run (P := Try.prog) W 23 4 _ 1 m Try.underlying23 boolinfo rfl (by omega) (by omega)
  have hmw := hm1.out.trans hm2
  have hb0 : Blk (w2.alloc (.cells (madeCells #[.bool false] m) 4)) w2.heap.size 4 (rowT m fun v => decide (v < 0)) := by
    have : (fun v : Nat => decide (v < 0)) = fun _ => false := by funext v; simp
    rw [this, ← made_rowT]; exact Blk.new w2 _ _
  have kOp := Lib.hid (fun W (h : Mod none_ w2 W) K kn' kc' kw (hk : Rd W 1 K kn' (tvs kw)) (hkn : kn' ≤ 140737488355328) => open_ok W G m d ts g (hgr.out.mod0 h) (by omega) K kn' kc' kw hk hkn)
  have kRe := Lib.hid (fun W (h : Mod none_ w2 W) f (hf : f < m) => reach_ok W G m d ts g (hgr.out.mod0 h) (by omega) f hf)
  replace hO := Lib.hid hO
  replace hfG := Lib.hid hfG
  replace hm2 := Lib.hid hm2
  replace hm := Lib.hid hm
  replace hmw := Lib.hid hmw
  replace hb0 := Lib.hid hb0
  go_wp2_with fail
  go_loopg [8] m (fun k v wr => ∃ i, v = .int .i64 (i : Nat) ∧ i + k = m ∧ Blk wr w2.heap.size 4 (rowT m fun v => decide (v < i)) ∧ Mod none_ w2 wr)
  case atStart => exact ⟨0, rfl, by omega, hb0.out, (Mod.refl none_ w2).alloc _⟩
  case round =>
    obtain ⟨i, rfl, hik, hb, hmr⟩ := hrel
    by_cases hlt : i < m
    · have x1 := hb.cell_ (rowT_get _ hlt)
      have z1 := hb.frozen i
      have hb2 := hb.set_ i (.bool true)
      rw [rowT_set] at hb2
      have hfe : upd (fun v => decide (v < i)) i true = fun v => decide (v < i + 1) := by
        funext v
        by_cases e : v = i
        · subst e; rw [upd_self]; simp
        · rw [upd_ne _ _ e]; simp; omega
      rw [hfe] at hb2
      have hm3 := hmr.then ((Mod.refl (fun k => k = w2.heap.size) wr).setCell (p := ⟨w2.heap.size, i, none⟩) (.inl rfl) (.bool true)) (fun j hj e => by omega)
      replace hb := Lib.hid hb
      replace hmr := Lib.hid hmr
      replace hb2 := Lib.hid hb2
      replace hm3 := Lib.hid hm3
      replace hfe := Lib.hid hfe
      go_wp2_with fail
      go_roundg (gk - 1)
      case measure => omega
      case rel => exact ⟨i + 1, by go_num, by omega, hb2.out, hm3.out⟩
    · obtain rfl : i = m := by omega
      have hall : rowT i (fun v => decide (v < i)) = rowT i fun _ => true := by
        unfold rowT
        congr 1
        refine List.map_congr_left fun v hv => ?_
        rw [List.mem_range] at hv
        simp [hv]
      rw [hall] at hb
      have kA := Lib.hid (kOp.out wr hmr _ i i _ (rowT_rd hb) (by omega))
      have hla : (openL g (rowB i fun _ => true)).length = i := by have := open_all g; rw [hm.out] at this; exact this
      unfold ReachPost at kA
      rw [hla] at kA
      replace hb := Lib.hid hb
      replace hmr := Lib.hid hmr
      replace hall := Lib.hid hall
      replace hla := Lib.hid hla
      go_wp2_with fail
      refine kA.out.mono ?_
      rintro e w3 ⟨B3, c3, rfl, _, _, hm3⟩
      dsimp only
      have hm4 := hmr.out.trans hm3
      have kB := Lib.hid (kOp.out w3 hm4 none 0 0 [] Rd.none_ (by omega))
      unfold ReachPost at kB
      rw [open_none] at kB
      clear hm3
      replace hm4 := Lib.hid hm4
      go_wp2_with fail
      refine kB.out.mono ?_
      rintro e w4 ⟨B4, c4, rfl, _, _, hm5⟩
      dsimp only
      have hm6 := hm4.out.trans hm5
      clear hm5
      replace hm6 := Lib.hid hm6
      by_cases hi0 : i = 0
      · subst hi0
        go_wp2_with fail
        go_ret
        exact ⟨rfl, (hmw.out.trans hm6.out).below0⟩
      · obtain ⟨k, hki, hku⟩ := umod at_ i (by omega) (by omega)
        have hi1 : ((i : Int) == 0) = false := by simp; omega
        have hmk2 : Hid (Blk (w4.alloc (.cells (madeCells #[.bool false] i) 4)) w4.heap.size 4 (rowT i fun v => decide (v < 0) && (isK known v || v == k))) := Lib.hid (by
          have : (fun v : Nat => decide (v < 0) && (isK known v || v == k)) = fun _ => false := by funext v; simp
          rw [this, ← made_rowT]; exact Blk.new w4 _ _)
        go_wp2_with fail
        rw [hku]
        go_loopg [11] i (fun kk v wr => ∃ j, v = .int .i64 (j : Nat) ∧ j + kk = i ∧ Blk wr w4.heap.size 4 (rowT i fun v => decide (v < j) && (isK known v || v == k)) ∧ Mod none_ w4 wr)
        case atStart => exact ⟨0, rfl, by omega, hmk2.out, (Mod.refl none_ w4).alloc _⟩
        case round =>
          obtain ⟨j, rfl, hjk, hb, hmr⟩ := hrel
          have hkw := Rd.mod0 hk.out (((hmw.out.trans hm6.out)).trans hmr)
          by_cases hlt : j < i
          · have x1 := hb.cell_ (rowT_get _ hlt)
            have z1 := hb.frozen j
            have hfe : upd (fun v => decide (v < j) && (isK known v || v == k)) j (isK known j || j == k) = fun v => decide (v < j + 1) && (isK known v || v == k) := by
              funext v
              by_cases e : v = j
              · subst e; rw [upd_self]; simp
              · rw [upd_ne _ _ e]
                have : decide (v < j) = decide (v < j + 1) := by rw [decide_eq_decide]; omega
                rw [this]
            have hb2 : ∀ bv, bv = (isK known j || j == k) → Hid (Blk (wr.setCell ⟨w4.heap.size, j, none⟩ (.bool bv)) w4.heap.size 4 (rowT i fun v => decide (v < j + 1) && (isK known v || v == k))) := fun bv e => Lib.hid (by
              have := hb.set_ j (.bool bv)
              rw [rowT_set, e, hfe] at this
              rw [e]; exact this)
            have hm3 : ∀ bv : Bool, Hid (Mod none_ w4 (wr.setCell ⟨w4.heap.size, j, none⟩ (.bool bv))) := fun bv => Lib.hid (hmr.then ((Mod.refl (fun k => k = w4.heap.size) wr).setCell (p := ⟨w4.heap.size, j, none⟩) (.inl rfl) (.bool bv)) (fun j hj e => by omega))
            have hkl : known.length = kn := by have := hkw.1; simp [tvs] at this; exact this
            generalize (decide (j < j) && (isK known j || j == k)) = ov at x1
            by_cases hjn : j < kn
            · obtain ⟨b, o, hA, hc⟩ := Rd.form hkw (show 0 < kn by omega) (by omega)
              have hjl : j < known.length := by omega
              have xk := hc j _ (tvs_get hjl)
              rw [← isK_in hjl] at xk
              clear hc
              subst hA
              have hd1 : (j : Int) < (kn : Int) := by omega
              cases hv : isK known j with
              | true =>
                rw [hv] at xk
                have hb3 := hb2 true (by rw [hv]; rfl)
                have hm4' := hm3 true
                clear hb2 hm3 hfe hkw
                replace hb := Lib.hid hb
                replace hmr := Lib.hid hmr
                replace hv := Lib.hid hv
                replace hkl := Lib.hid hkl
                go_wp2_with fail
                go_roundg (gk - 1)
                case measure => omega
                case rel => exact ⟨j + 1, by go_num, by omega, hb3.out, hm4'.out⟩
              | false =>
                rw [hv] at xk
                by_cases hjk2 : j = k
                · have hb3 := hb2 true (by rw [hv, hjk2]; simp)
                  have hm4' := hm3 true
                  have hd2 : ((j : Int) == (k : Int)) = true := by simp [hjk2]
                  clear hb2 hm3 hfe hkw
                  subst hjk2
                  replace hb := Lib.hid hb
                  replace hmr := Lib.hid hmr
                  replace hv := Lib.hid hv
                  replace hkl := Lib.hid hkl
                  go_wp2_with fail
                  go_roundg (gk - 1)
                  case measure => omega
                  case rel => exact ⟨j + 1, by go_num, by omega, hb3.out, hm4'.out⟩
                · have hb3 := hb2 false (by rw [hv]; simp [hjk2])
                  have hm4' := hm3 false
                  have hd2 : ((j : Int) == (k : Int)) = false := by simp; omega
                  clear hb2 hm3 hfe hkw
                  replace hb := Lib.hid hb
                  replace hmr := Lib.hid hmr
                  replace hv := Lib.hid hv
                  replace hkl := Lib.hid hkl
                  go_wp2_with fail
                  go_roundg (gk - 1)
                  case measure => omega
                  case rel => exact ⟨j + 1, by go_num, by omega, hb3.out, hm4'.out⟩
            · have hv : isK known j = false := isK_out (by omega)
              have hd1 : ¬ ((j : Int) < (kn : Int)) := by omega
              by_cases hjk2 : j = k
              · have hb3 := hb2 true (by rw [hv, hjk2]; simp)
                have hm4' := hm3 true
                clear hb2 hm3 hfe hkw
                subst hjk2
                replace hb := Lib.hid hb
                replace hmr := Lib.hid hmr
                replace hv := Lib.hid hv
                replace hkl := Lib.hid hkl
                go_wp2_with fail
                go_roundg (gk - 1)
                case measure => omega
                case rel => exact ⟨j + 1, by go_num, by omega, hb3.out, hm4'.out⟩
              · have hb3 := hb2 false (by rw [hv]; simp [hjk2])
                have hm4' := hm3 false
                have hd2 : ((j : Int) == (k : Int)) = false := by simp; omega
                clear hb2 hm3 hfe hkw
                replace hb := Lib.hid hb
                replace hmr := Lib.hid hmr
                replace hv := Lib.hid hv
                replace hkl := Lib.hid hkl
                go_wp2_with fail
                go_roundg (gk - 1)
                case measure => omega
                case rel => exact ⟨j + 1, by go_num, by omega, hb3.out, hm4'.out⟩
          · obtain rfl : j = i := by omega
            have hall2 : rowT j (fun v => decide (v < j) && (isK known v || v == k)) = rowT j fun v => isK known v || v == k := by
              unfold rowT
              congr 1
              refine List.map_congr_left fun v hv => ?_
              rw [List.mem_range] at hv
              simp [hv]
            rw [hall2] at hb
            have kC := Lib.hid (kOp.out wr (hm6.out.trans hmr) KA kn kc known hkw hkn)
            replace hb := Lib.hid hb
            replace hmr := Lib.hid hmr
            replace hall2 := Lib.hid hall2
            replace hkw := Lib.hid hkw
            go_wp2_with fail
            with_reducible refine kC.out.mono ?_
            rintro e w5 ⟨Ba, ca, rfl, hoa, _, hm7⟩
            dsimp only
            have kD := Lib.hid (kOp.out w5 ((hm6.out.trans hmr.out).trans hm7) _ j j _ (rowT_rd (hb.out.mod hm7 (fun h => h))) (by omega))
            replace hoa := Lib.hid hoa
            replace hm7 := Lib.hid hm7
            go_wp2_with fail
            with_reducible refine kD.out.mono ?_
            rintro e w6 ⟨Bb, cb, rfl, hob, _, hm8⟩
            dsimp only
            have hsub : Hid (∀ x ∈ openL g known, x ∈ openL g (rowB j fun v => isK known v || v == k)) := Lib.hid (by have := @open_more g known k; rw [hm.out] at this; exact this)
            have hcl := Lib.hid (fun x y (hx : x ∈ openL g (rowB j fun v => isK known v || v == k)) (hy : y ∈ reachL g x) => open_cl hx hy)
            have hnew : Hid (∀ x ∈ openL g (rowB j fun v => isK known v || v == k), x ∈ openL g known ∨ x = k ∨ k ∈ reachL g x) := Lib.hid (by have := @open_new g known k; rw [hm.out] at this; exact fun x hx => this hx)
            have hlt4 : Hid (∀ x ∈ openL g (rowB j fun v => isK known v || v == k), x < j) := Lib.hid (fun x hx => by have := (openL_mem.1 hx).1; rw [hm.out] at this; exact this)
            have hla2 : (openL g known).length ≤ 25 := by have := pickI_len (openB g known) g.length; rw [hm.out] at this; unfold openL; rw [hm.out]; omega
            have hlb2 : (openL g (rowB j fun v => isK known v || v == k)).length ≤ 25 := by have := pickI_len (openB g (rowB j fun v => isK known v || v == k)) g.length; rw [hm.out] at this; unfold openL; rw [hm.out]; omega
            have hrl : Hid (∀ x, (reachL g x).length ≤ j) := Lib.hid (fun x => by
              unfold reachL
              have := List.length_filter_le (fun k => @decide (TC g x k) (Classical.propDecidable _)) (List.range g.length)
              rw [List.length_range] at this
              have e := hm.out
              omega)
            have hra : Hid (RdI w6 Ba (openL g known).length (zs (openL g known))) := Lib.hid (Rd.mod0 (Ow.rd hoa.out) hm8)
            have hrb : Hid (RdI w6 Bb (openL g (rowB j fun v => isK known v || v == k)).length (zs (openL g (rowB j fun v => isK known v || v == k)))) := Lib.hid (Ow.rd hob)
            have hmg : Hid (Mod none_ w2 w6) := Lib.hid (((hm6.out.trans hmr.out).trans hm7.out).trans hm8)
            clear kC kD
            clear hob hm8
            generalize openL g known = La at *
            generalize openL g (rowB j fun v => isK known v || v == k) = Lb at *
            generalize hlan : La.length = la at *
            generalize hlbn : Lb.length = lb at *
            replace hlan := Lib.hid hlan
            replace hlbn := Lib.hid hlbn
            have kH := Lib.hid (fun (x : Nat) (L : List Nat) W A q d (h : RdI W A q (zs L)) (hq : q ≤ 1000) (hx : x ∈ L) => show Calls Try.prog 17 #[.slice A q d, .int .i64 (x : Int)] W (fun e w' => e = .returned (.bool true) ∧ W = w') from by
              have := has_ok W A q d (zs L) h (by omega) (x : Int)
              rwa [decide_eq_true (zs_mem.2 hx)] at this)
            have kH2 := Lib.hid (fun (x : Nat) (L : List Nat) W A q d (h : RdI W A q (zs L)) (hq : q ≤ 1000) (hx : x ∉ L) => show Calls Try.prog 17 #[.slice A q d, .int .i64 (x : Int)] W (fun e w' => e = .returned (.bool false) ∧ W = w') from by
              have := has_ok W A q d (zs L) h (by omega) (x : Int)
              rwa [decide_eq_false (fun hh => hx (zs_mem.1 hh))] at this)
            go_wp2_with fail
            go_loopg [14] la (fun kk v wr => ∃ q, v = .int .i64 (q : Nat) ∧ q + kk = la ∧ w6 = wr)
            case atStart => exact ⟨0, rfl, by omega, rfl⟩
            case round =>
              obtain ⟨q, rfl, hqk, rfl⟩ := hrel
              by_cases hq : q < la
              · obtain ⟨b, o, x, hBa, hxm, hxc, _⟩ := rdz_get hra.out hq
                have kHx := Lib.hid (kH.out x Lb w6 Bb lb cb hrb.out (by omega) (hsub.out x hxm))
                subst hBa
                go_wp2_with fail
                with_reducible refine kHx.out.mono ?_
                rintro e w7 ⟨rfl, rfl⟩
                dsimp only
                go_wp2_with fail
                go_roundg (gk - 1)
                case measure => omega
                case rel => exact ⟨q + 1, by go_num, by omega, rfl⟩
              · obtain rfl : q = la := by omega
                go_wp2_with fail
                go_loopg [15] lb (fun kk v wr => ∃ p, v = .int .i64 (p : Nat) ∧ p + kk = lb ∧ Mod none_ w6 wr)
                case atStart => exact ⟨0, rfl, by omega, Mod.refl _ _⟩
                case round =>
                  obtain ⟨p, rfl, hpk, hmr6⟩ := hrel
                  by_cases hp : p < lb
                  · obtain ⟨b, o, x, hBb, hxm, hxc0, _⟩ := rdz_get hrb.out hp
                    have hxc := hmr6.cell_some hxc0 (fun h => h)
                    have kR2 := Lib.hid (kRe.out wr (hmg.out.trans hmr6) x (hlt4.out x hxm))
                    have hrx := hrl.out x
                    have hclx : Hid (∀ y ∈ reachL g x, y ∈ Lb) := Lib.hid (fun y hy => hcl.out x y hxm hy)
                    have hnx : Hid (x ∈ La ∨ x = k ∨ k ∈ reachL g x) := Lib.hid (hnew.out x hxm)
                    unfold ReachPost at kR2
                    generalize reachL g x = Lr at *
                    generalize hlr : Lr.length = lr at *
                    subst hBb
                    clear hxc0
                    replace hmr6 := Lib.hid hmr6
                    replace hlr := Lib.hid hlr
                    replace hxm := Lib.hid hxm
                    go_wp2_with fail
                    refine kR2.out.mono ?_
                    rintro e w7 ⟨Br, cr, rfl, hor, _, hm9⟩
                    dsimp only
                    have hm10 := Lib.hid (hmr6.out.trans hm9)
                    have hrr := Lib.hid (show RdI w7 Br lr (zs Lr) from Ow.rd hor)
                    have hra7 := Lib.hid (show RdI w7 Ba q (zs La) from Rd.mod0 hra.out hm10.out)
                    have hrb7 := Lib.hid (show RdI w7 (some ⟨b, o, none⟩) lb (zs Lb) from Rd.mod0 hrb.out hm10.out)
                    have hxc7 := hm9.cell_some hxc (fun h => h)
                    clear hor hm9
                    go_wp2_with fail
                    go_loopg [17] lr (fun kk v wr => ∃ y, v = .int .i64 (y : Nat) ∧ y + kk = lr ∧ w7 = wr)
                    case atStart => exact ⟨0, rfl, by omega, rfl⟩
                    case round =>
                      obtain ⟨y, rfl, hyk, rfl⟩ := hrel
                      by_cases hy : y < lr
                      · obtain ⟨b5, o5, z, hBr, hzm, hzc, _⟩ := rdz_get hrr.out hy
                        have kHz := Lib.hid (kH.out z Lb w7 (some ⟨b, o, none⟩) lb cb hrb7.out (by omega) (hclx.out z hzm))
                        subst hBr
                        go_wp2_with fail
                        with_reducible refine kHz.out.mono ?_
                        rintro e w8 ⟨rfl, rfl⟩
                        dsimp only
                        go_wp2_with fail
                        go_roundg (gk - 1)
                        case measure => omega
                        case rel => exact ⟨y + 1, by go_num, by omega, rfl⟩
                      · obtain rfl : y = lr := by omega
                        by_cases hxa : x ∈ La
                        · have kHa := Lib.hid (kH.out x La w7 Ba q ca hra7.out (by omega) hxa)
                          replace hxa := Lib.hid hxa
                          go_wp2_with fail
                          with_reducible refine kHa.out.mono ?_
                          rintro e w8 ⟨rfl, rfl⟩
                          dsimp only
                          go_wp2_with fail
                          go_roundg (lb - (p + 1))
                          case measure => omega
                          case rel => exact ⟨p + 1, by go_num, by omega, hm10.out⟩
                        · have kHa := Lib.hid (kH2.out x La w7 Ba q ca hra7.out (by omega) hxa)
                          by_cases hxk : x = k
                          · have hd7 : ((x : Int) != (k : Int)) = false := by simp [hxk]
                            replace hxa := Lib.hid hxa
                            subst hxk
                            go_wp2_with fail
                            with_reducible refine kHa.out.mono ?_
                            rintro e w8 ⟨rfl, rfl⟩
                            dsimp only
                            go_wp2_with fail
                            go_roundg (lb - (p + 1))
                            case measure => omega
                            case rel => exact ⟨p + 1, by go_num, by omega, hm10.out⟩
                          · have hd7 : ((x : Int) != (k : Int)) = true := by simp; omega
                            have hkr : k ∈ Lr := (hnx.out.resolve_left hxa).resolve_left hxk
                            have kHk := Lib.hid (kH.out k Lr w7 Br y cr hrr.out (by omega) hkr)
                            replace hxa := Lib.hid hxa
                            replace hkr := Lib.hid hkr
                            go_wp2_with fail
                            with_reducible refine kHa.out.mono ?_
                            rintro e w8 ⟨rfl, rfl⟩
                            dsimp only
                            go_wp2_with fail
                            with_reducible refine kHk.out.mono ?_
                            rintro e w9 ⟨rfl, rfl⟩
                            dsimp only
                            go_wp2_with fail
                            go_roundg (lb - (p + 1))
                            case measure => omega
                            case rel => exact ⟨p + 1, by go_num, by omega, hm10.out⟩
                  · obtain rfl : p = lb := by omega
                    replace hmr6 := Lib.hid hmr6
                    go_wp2_with fail
                    go_ret
                    exact ⟨rfl, ((hmw.out.trans hmg.out).trans hmr6.out).below0⟩
end Go.Proofs.Ytenlpklgpcnfiaa
