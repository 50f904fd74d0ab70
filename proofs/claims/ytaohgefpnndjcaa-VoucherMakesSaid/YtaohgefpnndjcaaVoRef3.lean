/-
  The reference's Make.
-/
import Derived.Test.YtaohgefpnndjcaaVoRef2
import Derived.Test.YtaohgefpnndjcaaChRef3
import Derived.StillTailTactics
namespace Go.Proofs.Ytaohgefpnndjcaa
set_option linter.unusedVariables false
open Go.RowKit
theorem upd_set {C : List Ac} {l : Lg} {a : Ac} (hs : SortedC C) (hg : getC C l.n = some a) : updL C l = setC C { a with h := a.h + l.x } := by
  unfold setC updL
  refine List.map_congr_left fun y hy => ?_
  have hn := getC_name hg
  by_cases e : y.n = l.n
  · have : y = a := uniq_n hs hy (getC_mem hg) (by rw [e, hn])
    subst this
    rw [if_pos e, if_pos (by simp)]
  · rw [if_neg e, if_neg (by simp only [beq_iff_eq]; rw [hn]; exact e)]
def MkRel (w : World) (q B : Nat) (C : List Ac) (ls : List Lg) (j : Nat) (wr : World) : Prop := ∃ D, RefAt wr q B D ∧ OkC D ∧ SortedC D ∧ allR C ls = allR D (ls.drop j) ∧ Mod (· = q) w wr
set_option maxRecDepth 100000 in
set_option maxHeartbeats 4000000 in
theorem rmake_ok (w : World) (q B : Nat) (C : List Ac) (A : Option Addr) (n c : Nat) (ls : List Lg) (hR : RefAt w q B C) (oC : OkC C) (hs : SortedC C) (h : RdL w A n ls) (hn : n ≤ 1000) (hz : ∀ l ∈ ls, LgOk l) (hB : B ≤ w.heap.size) (hA : 0 < n → ∀ k, fp A k → ¬ k = q) :
    Calls Try.prog 17 #[.pointer (some ⟨q, 0, none⟩), .slice A n c] w (RfPost w q B (makeR C ls)) := by
  have hl := h.len
  have c0 := Lib.hid (rcheck_ok w q B C A n c ls hR oC hs h hn hz)
  unfold makeR
  obtain ⟨er, her⟩ : ∃ v, checkR C ls = v := ⟨_, rfl⟩
  rw [her] at c0 ⊢
  by_cases h0 : er = 0
  · subst h0
    rw [if_neg (by simp)]
    have hz0 : (allR C ls).2 = 0 := by
      unfold checkR at her
      split at her
      · omega
      · split at her
        · omega
        · exact her
    replace h := Lib.hid h
    replace hz := Lib.hid hz
    replace hR := Lib.hid hR
    replace oC := Lib.hid oC
    replace hs := Lib.hid hs
    replace her := Lib.hid her
    replace hA := Lib.hid hA
    replace hz0 := Lib.hid hz0
    go_enter Try.func17, Try.ntmps17
    go_wp2_with fail
    refine c0.out.mono ?_
    rintro e w1 ⟨rfl, hm1⟩
    dsimp only
    replace hm1 := Lib.hid hm1
    go_wp2_with fail
    go_loopw [6] (fun x wr => ∃ i : Nat, x = .int .i64 i ∧ i ≤ n ∧ MkRel w q B C ls i wr) (fun x _ => n - (intOf x).toNat)
    case atStart => exact ⟨0, rfl, by omega, C, hR.out.mod0 hm1.out, oC.out, hs.out, rfl, hm1.out.any _⟩
    case round =>
      obtain ⟨i, rfl, hi, D, hD, oD, sD, hall, hm⟩ := hrel
      by_cases hil : i < n
      · have t1 : decide ((i : Int) < (n : Int)) = true := decide_eq_true (by omega)
        obtain ⟨g, o, l, rfl, hmem, hjl, y1, y2⟩ := rdl_get (h.out.mod' hm hA.out) hil
        have hlok := hz.out l hmem
        have hgl := World.block_lt_of_cell? wr _ y1
        have hdr : ls.drop i = l :: ls.drop (i + 1) := by
          have hjlt : i < ls.length := by omega
          rw [List.getElem?_eq_getElem hjlt] at hjl
          injection hjl with hjl
          rw [List.drop_eq_getElem_cons hjlt, hjl]
        have hz1 := hz0.out
        rw [hall, hdr, show allR D (l :: ls.drop (i + 1)) = (if (postR D l).2 ≠ 0 then postR D l else allR (postR D l).1 (ls.drop (i + 1))) from rfl] at hz1
        have hp0 : (postR D l).2 = 0 := by
          by_cases hp : (postR D l).2 = 0
          · exact hp
          · rw [if_pos hp] at hz1; exact absurd hz1 hp
        obtain ⟨⟨a, hga, hI⟩, he⟩ := post_eff sD hp0
        have hall2 : allR C ls = allR (updL D l) (ls.drop (i + 1)) := by
          rw [hall, hdr, show allR D (l :: ls.drop (i + 1)) = (if (postR D l).2 ≠ 0 then postR D l else allR (postR D l).1 (ls.drop (i + 1))) from rfl, if_neg (by omega), he]
        have oD2 : OkC (updL D l) := by rw [← he]; exact post_okc oD l
        have sD2 := upd_sorted sD l
        obtain ⟨i0, hst, hget⟩ := stands_of hga
        have hDl : D.length ≤ 1000 := by have := oD.2; omega
        have hnew : updL D l = D.set i0 { a with h := a.h + l.x } := by
          obtain ⟨hi1, hn1, _⟩ := hst
          rw [upd_set sD hga, set_at sD hi1 (by rw [hn1]; exact (getC_name hga).symm)]
        obtain ⟨gD, cD, hcell, hrd, hq, hi0, u1, u2, u3, u4⟩ := hD.at_ hget
        have hCi : D[i0] = a := by rw [List.getElem?_eq_getElem hi0] at hget; injection hget
        have ca := Lib.hid (fun W (h : RefAt W q B D) => (rat_some W q B D l.n i0 h hDl hst).mono (fun e w' (hp : _ ∧ W = w') => (⟨hp.1, hp.2.symm⟩ : e = .returned (.int .i64 i0) ∧ w' = W)))
        obtain ⟨x, hx⟩ : ∃ x, l.x = x := ⟨_, rfl⟩
        rw [hx] at y2 hI hnew
        obtain ⟨v, hv⟩ : ∃ v, a.h + x = v := ⟨_, rfl⟩
        have ew : wrap64 (a.h + x) = v := (IntWalk.wrap64_in _ hI).trans hv
        have ew2 : IntKind.i64.wrap (a.h + x) = v := (IntWalk.i64_in _ hI).trans hv
        rw [hv] at hnew
        have hql := hq.lt
        have hne1 : ¬ g = q := hA.out (by omega) g ⟨_, rfl, rfl⟩
        have hsz := hm.size
        clear u1 u2 u3 u4 hz1
        replace hD := Lib.hid hD
        replace oD := Lib.hid oD
        replace sD := Lib.hid sD
        replace hall := Lib.hid hall
        replace hm := Lib.hid hm
        replace hmem := Lib.hid hmem
        replace hjl := Lib.hid hjl
        replace hlok := Lib.hid hlok
        replace hdr := Lib.hid hdr
        replace hp0 := Lib.hid hp0
        replace hga := Lib.hid hga
        replace hI := Lib.hid hI
        replace he := Lib.hid he
        replace hall2 := Lib.hid hall2
        replace oD2 := Lib.hid oD2
        replace sD2 := Lib.hid sD2
        replace hst := Lib.hid hst
        replace hget := Lib.hid hget
        replace hnew := Lib.hid hnew
        replace hrd := Lib.hid hrd
        replace hq := Lib.hid hq
        replace hCi := Lib.hid hCi
        replace hx := Lib.hid hx
        replace hv := Lib.hid hv
        replace hne1 := Lib.hid hne1
        go_wp2_with (at_builtin; go_loud (refine copyA rfl (.const (.slice none 0 0)) (.tmp 24) rfl rfl rfl hrd.out hDl ?_; intro A' c' w5 ho5 hm5 hf5; obtain ⟨g5, cur5, rfl, _⟩ := Ow.form ho5 (show 0 < D.length by omega); have hq5 := hq.out.mod hm5 (fun h => h); have v2 : w5.frozen? ⟨q, 0, none⟩ = false := hq5.frozen 0; have v1 : w5.cell? ⟨q, 0, none⟩ = some (.slice (some ⟨gD, 0, none⟩) D.length cD) := hq5.cell_ rfl; have v6 := hq5.lt; replace ho5 := Lib.hid ho5; replace hm5 := Lib.hid hm5; replace hf5 := Lib.hid hf5; replace hq5 := Lib.hid hq5))
        obtain ⟨W6, hW6⟩ : ∃ W, w5.setCell ⟨q, 0, none⟩ (.slice (some ⟨g5, 0, none⟩) D.length c') = W := ⟨_, rfl⟩
        have hm6 : Mod (· = q) w5 W6 := by rw [← hW6]; exact (Mod.refl (· = q) w5).setCell (.inl rfl) _
        have v5 : g5 ≠ q := fun e => Ow.ne_blk ho5.out hq5.out (by decide) ⟨_, rfl, e⟩
        have hq6 : Blk W6 q 36 #[.slice (some ⟨g5, 0, none⟩) D.length c'] := by rw [← hW6]; exact hq5.out.set_ 0 _
        have ho6 : OwA W6 (some ⟨g5, 0, none⟩) D.length c' D := Ow.mod ho5.out hm6 (by rintro k ⟨a, ha, rfl⟩; cases ha; exact v5)
        have hge : wr.heap.size ≤ g5 := hf5.out _ rfl
        have hR6 : RefAt W6 q B D := ⟨_, c', hq6, ho6, by rintro k ⟨a, ha, rfl⟩; cases ha; show B ≤ g5; omega⟩
        have p1 : W6.cell? ⟨q, 0, none⟩ = some (.slice (some ⟨g5, 0, none⟩) D.length c') := hq6.cell_ rfl
        have p2 : W6.cell? ⟨g5, i0*4 + 1, none⟩ = (acs D)[i0*4 + 1]? := Ow.cell_ ho6 rfl _ (by omega)
        rw [acs_at_h _ _ hi0, hCi.out] at p2
        have p3 : W6.frozen? ⟨g5, i0*4 + 1, none⟩ = false := Ow.free ho6 rfl _
        have p4 : W6.cell? ⟨g, o + i*2, none⟩ = some (.string (txt l.n)) := hm6.cell_some (hm5.out.cell_some y1 (fun h => h)) hne1.out
        have p5 : W6.cell? ⟨g, o + i*2 + 1, none⟩ = some (.int .i64 x) := hm6.cell_some (hm5.out.cell_some y2 (fun h => h)) hne1.out
        have p6 := hq6.lt
        have p7 := World.block_lt_of_cell? W6 _ p2
        have cad := Lib.hid (ca.out W6.drew (hR6.mod0 (Mod.refl _ _).drew))
        rw [hW6]
        clear y1 y2 hcell hW6
        replace hm6 := Lib.hid hm6
        replace hq6 := Lib.hid hq6
        replace ho6 := Lib.hid ho6
        replace hR6 := Lib.hid hR6
        replace hge := Lib.hid hge
        refine wp_region_still_tail 22 (by kernel_rfl) (by kernel_rfl) ?_
        simp only [List.take_succ_cons, List.take_zero, List.drop_succ_cons, List.drop_zero]
        change wpStill _ _ (World.drew _) _ _ _
        repeat still_step
        still_call (cad.out)
        repeat still_step
        refine wpStill_nil ?_
        change wpList _ _ _ _ _ (World.drew _)
        go_wp2_with fail
        go_roundw
        case rel =>
          have e1 := acs_set_h D i0 hi0 v
          rw [hCi.out] at e1
          refine ⟨i + 1, by go_num, by omega, updL D l, ?_, oD2.out, sD2.out, hall2.out, ?_⟩
          · refine ⟨some ⟨g5, 0, none⟩, c', ?_, ?_, ?_⟩
            · rw [hnew.out, List.length_set]
              exact hq6.out.drew.far (fun e => v5 e.symm) _
            · rw [hnew.out, List.length_set]
              unfold OwA
              rw [← e1]
              exact Ow.set_ (Ow.mod0 ho6.out (Mod.refl _ _).drew) rfl _ _
            · rintro k ⟨a, ha, rfl⟩
              cases ha
              show B ≤ g5
              have := hge.out
              omega
          · refine (((hm.out.trans (hm5.out.any _)).trans hm6.out).drew).setCell (.inr ?_) _
            show w.heap.size ≤ g5
            have := hge.out
            omega
        case measure => simp [intOf]; omega
      · have t1 : decide ((i : Int) < (n : Int)) = false := decide_eq_false (by omega)
        have hd0 : ls.drop i = [] := List.drop_eq_nil_of_le (by omega)
        rw [hd0] at hall
        replace hD := Lib.hid hD
        replace oD := Lib.hid oD
        replace sD := Lib.hid sD
        replace hall := Lib.hid hall
        replace hm := Lib.hid hm
        replace hd0 := Lib.hid hd0
        go_wp2_with fail
        go_ret
        rw [hall.out]
        exact ⟨rfl, hD.out, hm.out⟩
  · rw [if_pos h0]
    have e1 : (er == 0) = false := by simpa using h0
    replace h := Lib.hid h
    replace hz := Lib.hid hz
    replace hR := Lib.hid hR
    replace oC := Lib.hid oC
    replace hs := Lib.hid hs
    replace her := Lib.hid her
    replace hA := Lib.hid hA
    replace h0 := Lib.hid h0
    go_enter Try.func17, Try.ntmps17
    go_wp2_with fail
    refine c0.out.mono ?_
    rintro e w1 ⟨rfl, hm1⟩
    dsimp only
    replace hm1 := Lib.hid hm1
    go_wp2_with fail
    go_loopw [6] (fun x wr => x = .int .i64 0 ∧ Mod none_ w wr) (fun x _ => n - (intOf x).toNat)
    case atStart => exact ⟨rfl, hm1.out⟩
    case round =>
      obtain ⟨rfl, hm⟩ := hrel
      by_cases hn0 : 0 < n
      · have t1 : decide ((0 : Int) < (n : Int)) = true := decide_eq_true (by omega)
        have t2 : decide (0 < n) = true := decide_eq_true hn0
        replace hm := Lib.hid hm
        go_wp2_with fail
        go_ret
        exact ⟨rfl, hR.out.mod0 hm.out, hm.out.any _⟩
      · have t1 : decide ((0 : Int) < (n : Int)) = false := decide_eq_false (by omega)
        have t2 : decide (0 < n) = false := decide_eq_false hn0
        replace hm := Lib.hid hm
        go_wp2_with fail
        go_ret
        exact ⟨rfl, hR.out.mod0 hm.out, hm.out.any _⟩
end Go.Proofs.Ytaohgefpnndjcaa
