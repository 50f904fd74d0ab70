/-
  PackBack: the plain law and the walk. No condition.
-/
import Derived.Test.YtnjgcdijpkbloaaPackLives
import Derived.Test.YtnjgcdijpkbloaaPackPlain
import Derived.Test.YtnjgcdijpkbloaaSameB
import Derived.Test.YtnjgcdijpkbloaaStrs
import Derived.Test.YtnjgcdijpkbloaaMemG
import Derived.StillTailTactics
import Derived.Deep.DeepCutAuto
namespace Go.Proofs.Ytnjgcdijpkbloaa
set_option linter.unusedVariables false
open Go.RowKit
theorem rg_of {lo hi v : Int} {l t : List UInt8} (h1 : -9223372036854775808 ≤ v) (h2 : v ≤ 9223372036854775807) (h3 : lo ≤ v) (h4 : v ≤ hi) (hl : l = vb (zig v) ++ t) : rg lo hi l 0 = (v, 0, t) := by
  unfold rg
  rw [rn_of h1 h2 hl]
  simp only
  rw [if_neg (by omega), if_neg (by omega)]
theorem rnl_of : ∀ (ys : List Int) (pre : List Int) (t : List UInt8), i64In ys → rnl ys.length pre (ys.flatMap (fun x => vb (zig x)) ++ t) = (pre ++ ys, 0, t) := by
  intro ys
  induction ys with
  | nil => intro pre t _; simp [rnl]
  | cons y ys ih =>
    intro pre t hin
    have hy := hin y (by simp)
    simp only [List.length_cons, rnl, List.flatMap_cons, List.append_assoc]
    rw [rn_of hy.1 hy.2 rfl]
    simp only
    rw [if_neg (by omega), ih _ _ (fun x hx => hin x (by simp [hx]))]
    simp
theorem rns_of {ys : List Int} {most : Int} {t : List UInt8} (hin : i64In ys) (hl : (ys.length : Int) ≤ most) (h63 : ys.length ≤ 1000000) : rns most (numsB ys ++ t) 0 = (ys, 0, t) := by
  unfold rns
  rw [rg_of (v := (ys.length : Int)) (t := ys.flatMap (fun x => vb (zig x)) ++ t) (by omega) (by omega) (by omega) hl (by simp [numsB])]
  simp only
  rw [if_neg (by omega), Int.toNat_natCast, rnl_of ys [] t hin]
  simp
theorem rt_of {s : List UInt8} {most : Int} {t : List UInt8} (hl : (s.length : Int) ≤ most) (h63 : s.length ≤ 1000000) : rt most (txtB s ++ t) 0 = (s, 0, t) := by
  unfold rt
  rw [rg_of (v := (s.length : Int)) (t := s ++ t) (by omega) (by omega) (by omega) hl (by simp [txtB])]
  simp only
  rw [if_neg (by omega), if_neg (by rw [List.length_append]; omega), Int.toNat_natCast, List.take_left, List.drop_left]
/-- The texts, the first j of them cut. -/
def cutS (ls : List (List UInt8)) (j : Nat) : List (List UInt8) := (ls.take j).map (·.take 100) ++ ls.drop j
theorem cutS_len (ls : List (List UInt8)) (j : Nat) : (cutS ls j).length = ls.length := by simp [cutS]; omega
theorem cutS_get {ls : List (List UInt8)} {j : Nat} (h : j < ls.length) : ∃ h' : j < (cutS ls j).length, (cutS ls j)[j] = ls[j] := by
  refine ⟨by rw [cutS_len]; exact h, ?_⟩
  unfold cutS
  rw [List.getElem_append_right (by simp; omega)]
  simp only [List.length_map, List.length_take, Nat.min_eq_left (Nat.le_of_lt h), Nat.sub_self, List.getElem_drop, Nat.add_zero]
theorem cutS_next {ls : List (List UInt8)} {j : Nat} (h : j < ls.length) : (cutS ls j).set j (ls[j].take 100) = cutS ls (j + 1) := by
  unfold cutS
  have hl : ((ls.take j).map (·.take 100)).length = j := by simp; omega
  rw [List.set_append_right _ _ (by omega), hl, Nat.sub_self, List.drop_eq_getElem_cons h, List.set_cons_zero, List.take_succ_eq_append_getElem h, List.map_append]
  simp
theorem extract_txt (l : List UInt8) (k : Nat) : (txt l).extract 0 k = txt (l.take k) := by
  apply ByteArray.ext
  apply Array.ext'
  simp [txt, ByteArray.data_extract]
theorem Mod.only_new {w w1 w2 : World} {g : Nat} (h : Mod none_ w w1) (k : Mod (only g) w1 w2) (hg : w.heap.size ≤ g) : Mod none_ w w2 :=
  h.then k fun i hi hk => by unfold only at hk; omega
theorem numsB_len (ys : List Int) : (numsB ys).length ≤ 10 * (ys.length + 1) := by
  unfold numsB
  have h : ∀ l : List Int, (l.flatMap fun x => vb (zig x)).length ≤ 10 * l.length := by
    intro l
    induction l with
    | nil => simp
    | cons x l ih => have := vb_len (zig x); simp only [List.flatMap_cons, List.length_append, List.length_cons]; omega
  have := h ys
  have := vb_len (zig (ys.length : Int))
  rw [List.length_append]; omega
theorem i64_of_wf {l : List Int} (h : ∀ z ∈ l, (Lit.int .i64 z).wf = true) : i64In l := by
  intro x hx
  simpa [Lit.wf, IntKind.min, IntKind.max, IntKind.signed, IntKind.bits] using h x hx
def B1Rel (w : World) (n : Nat) (ys : List Int) (ls : List (List UInt8)) (j : Nat) (tv bv : Value) (wr : World) : Prop :=
  ∃ T c A t d, tv = .slice T n c ∧ RdS wr T n (cutS ls j) ∧ bv = .slice A t d ∧ OwB wr 5 A t d (numsB ys ++ ((ls.take j).map (·.take 100)).flatMap txtB) ∧ Fresh w A ∧ Mod none_ w wr ∧ t ≤ 1000 + 110 * j ∧ (0 < n → ∀ k, fp T k → ¬ fp A k)
set_option maxRecDepth 100000 in
theorem done_empty (w : World) (g B : Nat) (h : Rdr w g B [] 0) : Calls Try.prog 12 #[.pointer (some ⟨g, 0, none⟩)] w fun en w' => en = .returned (.int .i64 0) ∧ w = w' := by
  obtain ⟨A, n, c, hb, hr, _, _, _, hB⟩ := h
  obtain ⟨h1, h2, h3, h4⟩ := hb.two
  have hl := hr.len
  simp at hl
  subst hl
  clear hr
  replace hb := Lib.hid hb
  go_enter Try.func12, Try.ntmps12
  go_wp2
  go_ret
  exact ⟨rfl, rfl⟩
set_option maxRecDepth 100000 in
set_option maxHeartbeats 4000000 in
theorem packBack_walk (w : World) (A : Option Addr) (n c : Nat) (l : List Int) (cm : Came w 1 8 A n c (ivs l)) (hin : i64In l) (B : Option Addr) (m d : Nat) (ls : List (List UInt8)) (cs : Came w 1 16 B m d (svs ls)) :
    Calls Try.prog 4 #[.slice A n c, .slice B m d] w fun e w' => e = .returned (.bool true) ∧ Below w.heap.size w w' := by
  obtain ⟨hr, hnc, hc63, hcb, hlt⟩ := cm
  obtain ⟨hs, hmd, hd63, hdb, hlt2⟩ := cs
  have e1 : (min (n : Int) 60).toNat = min n 60 := by omega
  have e2 : (min (m : Int) 20).toNat = min m 20 := by omega
  have hrI : RdI w A n l := hr
  have hrS : RdS w B m ls := hs
  obtain ⟨q, hq⟩ : ∃ q, q = min n 60 := ⟨_, rfl⟩
  obtain ⟨p, hp⟩ : ∃ p, p = min m 20 := ⟨_, rfl⟩
  rw [← hq] at e1
  rw [← hp] at e2
  have hq6 : q ≤ 60 := by omega
  have hp2 : p ≤ 20 := by omega
  have hqc : q ≤ c := by omega
  have hpd : p ≤ d := by omega
  have hpm : p ≤ m := by omega
  have hqI := rdi_take hrI (k := q) (by omega)
  have hpS := rds_take hrS (k := p) (by omega)
  have hinq : i64In (l.take q) := fun x hx => hin x (List.mem_of_mem_take hx)
  generalize l.take q = ys at hqI hinq
  generalize ls.take p = ts at hpS
  have hyl := hqI.len
  have htl := hpS.len
  clear hr hs hin hrI hrS
  replace hqI := Lib.hid hqI
  replace hpS := Lib.hid hpS
  replace hlt := Lib.hid hlt
  replace hlt2 := Lib.hid hlt2
  replace e1 := Lib.hid e1
  replace e2 := Lib.hid e2
  replace hq := Lib.hid hq
  replace hp := Lib.hid hp
  replace hinq := Lib.hid hinq
  replace hyl := Lib.hid hyl
  replace htl := Lib.hid htl
  go_enter Try.func4, Try.ntmps4
  go_wp2_with fail
  refine (lives_ok _).mono ?_
  rintro e w1 ⟨rfl, hm1⟩
  dsimp only
  replace hm1 := Lib.hid hm1
  have e1' := e1.out
  have e2' := e2.out
  go_wp2_with (go_quiet (fail))
  refine (nums_ok _ A q c ys (Rd.mod0 hqI.out (hm1.out.drewN _)) (by omega) hinq.out).mono ?_
  rintro e w2 ⟨A2, c2, rfl, ho2, hf2, hm2⟩
  dsimp only
  have hb2 : (numsB ys).length ≤ 1000 := by have := numsB_len ys; have := hyl.out; omega
  obtain ⟨t2, ht2⟩ : ∃ t2, t2 = (numsB ys).length := ⟨_, rfl⟩
  rw [← ht2] at ho2 hb2 ⊢
  have hm2' := (hm1.out.drewN _).trans hm2
  have hf2' : Fresh w A2 := hf2.later (hm1.out.drewN _).size
  clear hm2 hf2 e1' e2'
  replace ho2 := Lib.hid ho2
  replace hf2' := Lib.hid hf2'
  replace hm2' := Lib.hid hm2'
  replace ht2 := Lib.hid ht2
  go_wp2_with fail
  go_loopw [1, 5, 6] (fun tv bv x wr => ∃ j : Nat, x = .int .i64 j ∧ j ≤ p ∧ B1Rel w p ys ts j tv bv wr) (fun _ _ x _ => p - (intOf x).toNat)
  case atStart =>
    refine ⟨0, rfl, by omega, B, d, A2, t2, c2, rfl, ?_, rfl, ?_, hf2'.out, hm2'.out, by omega, ?_⟩
    · have := Rd.mod0 hpS.out hm2'.out
      simpa [cutS, RdS] using this
    · simpa using ho2.out
    · rintro h0 k hk ⟨a, ha, rfl⟩
      have := hlt2.out (by omega) _ hk
      have := hf2'.out a ha
      omega
  case round =>
    obtain ⟨j, rfl, hj, T, tc, Ab, t, bd, rfl, hT, rfl, hb, hbf, hm, htb, hap⟩ := hrel
    replace hT := Lib.hid hT
    replace hb := Lib.hid hb
    replace hbf := Lib.hid hbf
    replace hm := Lib.hid hm
    replace hap := Lib.hid hap
    by_cases hlt : j < p
    · go_wp2_with (at_builtin; go_loud (refine appS rfl (.const (.slice none 0 0)) (.tmp 33) rfl rfl (OwS.nil _) rfl hT.out (by omega) ?_; intro T1 tc1 w3 hT1 hmT1 hA1; replace hT1 := Lib.hid hT1; replace hmT1 := Lib.hid hmT1.nil_own; replace hA1 := Lib.hid hA1))
      obtain ⟨g, cur, rfl, hblk, _, _⟩ := hT1.out.form (by omega)
      have hgw : wr.heap.size ≤ g := by
        rcases hA1.out with h | h
        · cases h
        · cases h; exact Nat.le_refl _
      have hlt' : j < ts.length := by have := htl.out; omega
      obtain ⟨hj1, hj2⟩ := cutS_get hlt'
      have hcell : w3.cell? ⟨g, j, none⟩ = some (.string (txt ts[j])) := by
        have := hT1.out.rd
        rw [hT1.out.cell_ rfl j (by omega)]
        have := svs_get hj1
        rw [hj2] at this
        simpa using this
      have hfree : w3.frozen? ⟨g, j, none⟩ = false := hblk.frozen j
      have hset := cutS_next hlt'
      have hsucc : ts.take (j + 1) = ts.take j ++ [ts[j]] := List.take_succ_eq_append_getElem hlt'
      generalize ts[j] = s at hcell hset hsucc
      have hsz : (txt s).size = s.length := by simp [txt, ByteArray.size]
      have hex : (txt s).extract 0 (min s.length 100) = txt (s.take 100) := by
        rw [extract_txt]
        congr 1
        by_cases h : s.length ≤ 100
        · rw [Nat.min_eq_left h, List.take_of_length_le (Nat.le_refl _), List.take_of_length_le h]
        · rw [Nat.min_eq_right (by omega)]
      have hmin : (min (s.length : Int) 100).toNat = min s.length 100 := by omega
      have hmn : (0 : Int) ≤ min (s.length : Int) 100 := by omega
      have hmx : min (s.length : Int) 100 ≤ (s.length : Int) := by omega
      clear hblk hj1 hj2
      replace hset := Lib.hid hset
      replace hsucc := Lib.hid hsucc
      refine wp_region_still_tail 14 (by kernel_rfl) (by kernel_rfl) ?_
      simp only [List.take_succ_cons, List.take_zero, List.drop_succ_cons, List.drop_zero]
      change wpStill _ _ (World.drew _) _ _ _
      repeat still_step
      refine wpStill_nil ?_
      change wpList _ _ _ _ _ (World.drew _)
      go_wp2_with fail
      have hW1 : Mod (only g) w3 ((w3.setCell ⟨g, j, none⟩ (.string (txt (s.take 100)))).drew) := ((Mod.refl (only g) w3).set_only j _).drew
      have hmW : Mod none_ w ((w3.setCell ⟨g, j, none⟩ (.string (txt (s.take 100)))).drew) := (hm.out.trans hmT1.out).only_new hW1 (Nat.le_trans hm.out.size hgw)
      have hbW : OwB ((w3.setCell ⟨g, j, none⟩ (.string (txt (s.take 100)))).drew) 5 Ab t bd (numsB ys ++ ((ts.take j).map (·.take 100)).flatMap txtB) :=
        Ow.mod (hb.out.mod0 hmT1.out) hW1 (fun k hk he => by have := hb.out.lt k hk; unfold only at he; omega)
      have hTW : RdS ((w3.setCell ⟨g, j, none⟩ (.string (txt (s.take 100)))).drew) (some ⟨g, 0, none⟩) p (cutS ts (j + 1)) := by
        have := (hT1.out.set_ rfl j (.string (txt (s.take 100)))).rd
        simp only [List.nil_append, Nat.zero_add] at this
        rw [← svs_set, hset.out] at this
        exact this
      have hgW : g < ((w3.setCell ⟨g, j, none⟩ (.string (txt (s.take 100)))).drew).heap.size := by
        have := hT1.out.lt g ⟨_, rfl, rfl⟩
        simpa [World.setCell] using this
      have hAg : ∀ k, fp Ab k → k ≠ g := fun k hk => by have := hb.out.lt k hk; omega
      clear hcell hfree hex hmin hmn hmx hT1 hsz hW1
      generalize (w3.setCell ⟨g, j, none⟩ (.string (txt (s.take 100)))).drew = w4 at hmW hbW hTW hgW ⊢
      replace hmW := Lib.hid hmW
      replace hbW := Lib.hid hbW
      replace hTW := Lib.hid hTW
      replace hgW := Lib.hid hgW
      replace hAg := Lib.hid hAg
      refine (text_ok w4 (s.take 100) (by rw [List.length_take]; omega)).mono ?_
      rintro e w5 ⟨C, cc, rfl, hC, hCf, hm5⟩
      dsimp only
      have hCl : (txtB (s.take 100)).length ≤ 110 := by
        unfold txtB; rw [List.length_append]; have := vb_len (zig ((s.take 100).length : Int)); rw [List.length_take] at this ⊢; omega
      obtain ⟨u, hu⟩ : ∃ u, u = (txtB (s.take 100)).length := ⟨_, rfl⟩
      rw [← hu] at hC hCl ⊢
      have hb5 := hbW.out.mod0 hm5
      have hT5 := Rd.mod0 hTW.out hm5
      have hmw5 := hmW.out.trans hm5
      have hg5 := Nat.lt_of_lt_of_le hgW.out hm5.size
      replace hC := Lib.hid hC
      replace hCf := Lib.hid hCf
      replace hm5 := Lib.hid hm5
      replace hu := Lib.hid hu
      replace hb5 := Lib.hid hb5
      replace hT5 := Lib.hid hT5
      replace hmw5 := Lib.hid hmw5
      replace hg5 := Lib.hid hg5
      go_wp2_with (at_builtin; go_loud (refine app8 rfl (.tmp 49) (.tmp 54) rfl rfl hb5.out rfl hC.out.rd (by omega) ?_; intro A' c' w' h1 h2 h3; replace h1 := Lib.hid h1; replace h2 := Lib.hid h2; replace h3 := Lib.hid h3))
      go_roundw
      case rel =>
        refine ⟨j + 1, by go_num, by omega, _, _, A', t + u, c', rfl, Rd.mod hT5.out h2.out ?_, rfl, ?_, Fresh.app hbf.out hmw5.out.size h3.out, hmw5.out.app hbf.out h2.out, by omega, ?_⟩
        · rintro k ⟨a, ha, rfl⟩ hk; cases ha; exact hAg.out _ hk rfl
        · have := h1.out
          rw [hsucc.out, List.map_append, List.flatMap_append]
          simpa using this
        · rintro _ k ⟨a, ha, rfl⟩ hk
          cases ha
          rcases h3.out with rfl | rfl
          · exact hAg.out _ hk rfl
          · obtain ⟨a, ha, hag⟩ := hk; cases ha; have := hg5.out; simp only at hag; omega
      case measure => simp [intOf]; omega
    · have hjp : j = p := by omega
      subst hjp
      have hcut : cutS ts j = ts.map (·.take 100) := by
        have := htl.out
        unfold cutS
        rw [List.take_of_length_le (by omega), List.drop_eq_nil_of_le (by omega), List.append_nil]
      have htk : ts.take j = ts := List.take_of_length_le (by have := htl.out; omega)
      rw [hcut] at hT
      rw [htk] at hb
      obtain ⟨us, hus⟩ : ∃ us, us = ts.map (·.take 100) := ⟨_, rfl⟩
      rw [← hus] at hT hb
      have hul : us.length = j := by rw [hus, List.length_map]; exact htl.out
      have hu100 : ∀ s ∈ us, s.length ≤ 100 := by
        intro s hs
        rw [hus] at hs
        obtain ⟨s', _, rfl⟩ := List.mem_map.1 hs
        rw [List.length_take]; omega
      have hnr : rns 60 (numsB ys ++ us.flatMap txtB) 0 = (ys, 0, us.flatMap txtB) := rns_of hinq.out (by have := hyl.out; omega) (by have := hyl.out; omega)
      clear hcut htk
      replace hus := Lib.hid hus
      replace hul := Lib.hid hul
      replace hu100 := Lib.hid hu100
      go_wp2_with fail
      refine (new_ok wr Ab t bd _ hb.out.rd (by omega)).mono ?_
      rintro e w6 ⟨g, B6, rfl, hR, hg, hB6, hBl, hm6⟩
      dsimp only
      have hT6 := Rd.mod0 hT.out hm6
      have hmw6 := hm.out.trans hm6
      have hgw : w.heap.size ≤ g := Nat.le_trans hm.out.size hg
      have hgT : 0 < j → ∀ k, fp T k → k < g := fun h0 k hk => Nat.lt_of_lt_of_le (Rd.lt hT.out h0 k hk) hg
      replace hR := Lib.hid hR
      replace hm6 := Lib.hid hm6
      replace hT6 := Lib.hid hT6
      replace hmw6 := Lib.hid hmw6
      replace hgT := Lib.hid hgT
      go_wp2_with fail
      have hns := rnums_ok w6 g B6 0 _ 60 hR.out hBl (by omega)
      rw [hnr] at hns
      refine hns.mono ?_
      rintro e w7 ⟨X, xn, xc, rfl, hX, hXf, hR7, hm7⟩
      dsimp only at hX hR7 ⊢
      clear hns hnr
      have hxl := hX.len
      have hyl' := hyl.out
      have hxq : xn = q := by omega
      subst hxq
      have hT7 := Rd.mod' hT6.out hm7 (fun h0 k hk he => by unfold only at he; have := hgT.out h0 k hk; omega)
      have hmw7 := hmw6.out.only_new hm7 hgw
      replace hX := Lib.hid hX
      replace hXf := Lib.hid hXf
      replace hR7 := Lib.hid hR7
      replace hm7 := Lib.hid hm7
      replace hT7 := Lib.hid hT7
      replace hmw7 := Lib.hid hmw7
      replace hxl := Lib.hid hxl
      replace hyl' := Lib.hid hyl'
      have hY7 : Hid (RdI w7 A xn ys) := Lib.hid (Rd.mod0 hqI.out hmw7.out)
      go_wp2_with fail
      refine (same1_ok w7 A X xn xn c xc ys ys hY7.out hX.out.rd (by omega) (by omega)).mono ?_
      rintro e w8 ⟨rfl, hm8⟩
      rw [decide_eq_true rfl]
      dsimp only
      have hT8 := Rd.mod0 hT7.out hm8
      have hmw8 := hmw7.out.trans hm8
      have hR8 := hR7.out.mod0 hm8
      replace hm8 := Lib.hid hm8
      replace hT8 := Lib.hid hT8
      replace hmw8 := Lib.hid hmw8
      replace hR8 := Lib.hid hR8
      go_wp2_with fail
      go_loopw [10] (fun x ws => ∃ i : Nat, x = .int .i64 i ∧ i ≤ j ∧ Rdr ws g B6 ((us.drop i).flatMap txtB) 0 ∧ Mod (only g) w8 ws) (fun x _ => j - (intOf x).toNat)
      case atStart => exact ⟨0, rfl, by omega, by simpa using hR8.out, Mod.refl _ _⟩
      case round =>
        obtain ⟨i, rfl, hi, hRi, hmi⟩ := hrel
        have hTi : Hid (RdS wr T j us) := Lib.hid (Rd.mod' hT8.out hmi (fun h0 k hk he => by unfold only at he; have := hgT.out h0 k hk; omega))
        by_cases hij : i < j
        · obtain ⟨b, o, rfl, hl, hcell⟩ := rds_at hTi.out hij
          have hdr : us.drop i = us[i] :: us.drop (i + 1) := List.drop_eq_getElem_cons hl
          have hs100 := hu100.out us[i] (List.getElem_mem hl)
          generalize us[i] = s at hcell hdr hs100
          have hrt : rt 100 ((us.drop i).flatMap txtB) 0 = (s, 0, (us.drop (i + 1)).flatMap txtB) := by
            rw [hdr, List.flatMap_cons]; exact rt_of (by omega) (by omega)
          have hct := rtext_ok _ g B6 0 _ 100 hRi (by omega)
          rw [hrt] at hct
          have hinj := (txt_inj s s).2 rfl
          clear hdr hrt hs100 hinj
          replace hct := Lib.hid hct
          replace hRi := Lib.hid hRi
          replace hmi := Lib.hid hmi
          go_wp2_with fail
          refine hct.out.mono ?_
          rintro e w9 ⟨rfl, hR9, hm9⟩
          dsimp only at hR9 ⊢
          have hc9 : w9.cell? ⟨b, o + i, none⟩ = some (.string (txt s)) := hm9.cell_some hcell (fun he => by have he : b = g := he; have := hgT.out (by omega) b ⟨_, rfl, rfl⟩; omega)
          clear hcell
          replace hR9 := Lib.hid hR9
          replace hm9 := Lib.hid hm9
          go_wp2_with fail
          go_roundw
          case rel => exact ⟨i + 1, by go_num, by omega, hR9.out, hmi.out.trans hm9.out⟩
          case measure => simp [intOf]; omega
        · have hij' : us.drop i = [] := List.drop_eq_nil_of_le (by have := hul.out; omega)
          rw [hij'] at hRi
          simp only [List.flatMap_nil] at hRi
          clear hij'
          replace hRi := Lib.hid hRi
          replace hmi := Lib.hid hmi
          go_wp2_with fail
          refine (done_empty _ g B6 hRi.out).mono ?_
          rintro e w9 ⟨rfl, rfl⟩
          dsimp only
          go_wp2_with fail
          refine (left_ok _ g B6 0 [] hRi.out).mono ?_
          rintro e w9 ⟨rfl, rfl⟩
          dsimp only
          go_wp2_with fail
          go_ret
          exact ⟨rfl, (hmw8.out.only_new hmi.out hgw).below0⟩
end Go.Proofs.Ytnjgcdijpkbloaa
