import Derived.Test.YtfkfiokkjjnhiaaGreatUp26
import Derived.Test.YtfkfiokkjjnhiaaGreatUp27
import Derived.Test.YtfkfiokkjjnhiaaGreatUp3
import Derived.StillTailTactics
import Derived.Test.YtfkfiokkjjnhiaaGreatUp10
set_option linter.unusedVariables false
set_option linter.unusedSimpArgs false
set_option maxHeartbeats 16000000
namespace Go.Proofs.YtfkfiokkjjnhiaaGreat
open Go.RowKit
theorem edge_nil {n i k : Nat} : ¬ Kn.Edge (List.replicate n []) i k := by
 rintro ⟨l, hl, hk, _⟩
 have := List.eq_of_mem_replicate (List.mem_of_getElem? hl)
 rw [this] at hk
 cases hk
theorem tc_nil {n i k : Nat} : ¬ Kn.TC (List.replicate n []) i k := fun ⟨_, h, _⟩ => edge_nil h
open Classical in
theorem openB_nil (n : Nat) (known : List Bool) (i : Nat) : Kn.openB (List.replicate n []) known i = Kn.isK known i := by
 unfold Kn.openB
 have : (∀ k, Kn.TC (List.replicate n []) i k → Kn.isK known k = true) := fun k h => absurd h tc_nil
 simp
 exact fun _ => this
theorem openL_0 : Kn.openL (List.replicate 1 []) (List.replicate 0 true) = List.range 0 := by
 unfold Kn.openL Kn.pickI
 have : Kn.openB (List.replicate 1 []) (List.replicate 0 true) = fun i => Kn.isK (List.replicate 0 true) i := funext fun i => openB_nil _ _ _
 rw [this]
 rfl
theorem openL_1 : Kn.openL (List.replicate 2 []) (List.replicate 1 true) = List.range 1 := by
 unfold Kn.openL Kn.pickI
 have : Kn.openB (List.replicate 2 []) (List.replicate 1 true) = fun i => Kn.isK (List.replicate 1 true) i := funext fun i => openB_nil _ _ _
 rw [this]
 rfl
theorem kseq_0 {ks : List (List Nat)} (h : Kn.KSeq (List.replicate 0 []) (fun _ => False) ks) : ks.flatten = List.range 0 := by
 cases h with
 | nil _ => rfl
 | cons f _ _ => exact absurd f.1 (by simp)
theorem kseq_1 {ks : List (List Nat)} (h : Kn.KSeq (List.replicate 1 []) (fun _ => False) ks) : ks.flatten = List.range 1 := by
 have hk : Kn.knotOf (List.replicate 1 []) 0 = [0] := by
  unfold Kn.knotOf
  simp [Kn.RT.refl]
 cases h with
 | nil h => exact absurd (h 0 (by simp)) (by simp)
 | cons f g h2 =>
  have hi := f.1
  simp at hi
  subst hi
  cases h2 with
  | nil _ => rw [hk]; rfl
  | cons f2 _ _ =>
   have h1 := f2.1
   simp at h1
   subst h1
   exact absurd (Or.inr (by rw [hk]; simp)) f2.2.1
theorem didinfo : (Tryz.prog.info? 174).map (fun i => (i.zero, i.size, i.bytes)) = some (some (.agg #[.int .i64 0, .int .i64 0, .int .i64 0, .int .i64 0, .int .i64 0, .int .i64 0, .int .i64 0, .int .i64 0, .bool false]), 9, 72) := by kernel_rfl
def Run0Post (w : World) (e : Ending) (w' : World) : Prop := (∃ v, e = .returned v) ∧ Mod none_ w w'
set_option maxRecDepth 100000
theorem run0_ok (w : World) (col : Col) (k : Nat) (b : RpB) (me n : Int) (X : RpS) (h : RpM w col k b me n X) (hK : X.K = []) :
  Calls Tryz.prog 54 #[.pointer (some ⟨b.rn.q, 0, none⟩)] w (Run0Post w) := by
 have hKl : X.K.length = 0 := by rw [hK]; rfl
 have hnd : NoDeps X.K := by rw [hK]; exact fun p hp => by cases hp
 have hKm := h.rn.kn
 have c0 : w.cell? ⟨b.rn.q, 0, none⟩ = some (.map (some b.rn.kn)) := h.rn.q.cell_ rfl
 have hlq := h.rn.q.lt
 have kG := graph_ok w b.rn.q b.rn.kn X.K c0 hKm (by omega) hnd
 unfold GrPost at kG
 rw [hKl] at kG
 have hmk := fun W => run_makeMap (P := Tryz.prog) 93 W
 replace kG := zH kG
 replace h := zH h
 replace hKm := zH hKm
 replace hnd := zH hnd
 go_enter Tryz.func54, Tryz.ntmps54
 go_wp2_with fail
 refine kG.out.mono ?_
 rintro e w1 ⟨A, c, ss, G, rfl, hp, ho, hf, hgr, hgf, hm1⟩
 dsimp only
 have kR := zH (Kn.repeatT_ok (w1.alloc (.cells #[.bool true] 4)) w1.heap.size 1 ((Blk.new w1 _ #[.bool true]).cell_ rfl) 0 (by omega))
 have hm1' := zH (hm1.alloc (.cells #[.bool true] 4))
 have hg1 := zH (hgr.mod0 ((Mod.refl none_ w1).alloc (.cells #[.bool true] 4)))
 have hgl : True := trivial
 replace hp := zH hp
 replace ho := zH ho
 replace hf := zH hf
 replace hgf := zH hgf
 replace hm1 := zH hm1
 replace hgr := zH hgr
 replace hgl := zH hgl
 go_wp2_with fail
 refine kR.out.mono ?_
 rintro e w2 ⟨rfl, hbk, hm2⟩
 dsimp only
 have hs1 : (w1.alloc (.cells #[.bool true] 4)).heap.size = w1.heap.size + 1 := by simp
 rw [hs1] at hbk
 clear hs1
 have hM2 := zH (hm1'.out.trans hm2)
 have hg2 := hg1.out.mod0 hm2
 have hmd := MapN.made w2
 have hm3 := (Mod.refl none_ w2).alloc (.map #[] 0)
 obtain ⟨w3, hw3⟩ : ∃ w3, w3 = w2.alloc (.map #[] 0) := ⟨_, rfl⟩
 rw [← hw3] at hmd hm3
 have hM3 := zH (hM2.out.trans hm3)
 have hm13 := zH ((((Mod.refl none_ w1).alloc (.cells #[.bool true] 4)).trans hm2).trans hm3)
 have hg3 := hg2.mod0 hm3
 have hbk3 := zH (hbk.mod hm3 (fun h => h))
 have kC := zH (cloneRw_ok w3 ((List.replicate 0 L0).map SV.v) (by intro u hu; rw [List.map_replicate] at hu; rw [List.eq_of_mem_replicate hu]; rfl) G 0 0 hg3.1 (by omega))
 have hs12' : w1.heap.size < w2.heap.size := by have := hm2.size; simp at this; omega
 clear kR hm2 hg1 hg2 hbk
 replace hmd := zH hmd
 replace hm3 := zH hm3
 replace hg3 := zH hg3
 go_upto_region 6 with fail
 rw [← hw3]
 replace hw3 := zH hw3
 go_wp2_with fail
 refine kC.out.mono ?_
 rintro e w4 ⟨A4, c4, rfl, ho4, hf4, hm4⟩
 dsimp only
 have hM4 := zH (hM3.out.trans hm4)
 have ho4' := zH (Ow.mod0 ho4 ((Mod.refl none_ w4).alloc (.cells #[.slice none 0 0] 31)))
 have hmd4 := hmd.out.mod hm4 (fun h => h)
 have hmd4' := zH (hmd4.mod ((Mod.refl none_ w4).alloc (.cells #[.slice none 0 0] 31)) (fun h => h))
 have hbk4 := zH ((hbk3.out.mod hm4 (fun h => h)).mod ((Mod.refl none_ w4).alloc (.cells #[.slice none 0 0] 31)) (fun h => h))
 have hr4 := zH (show Rd (w4.alloc (.cells #[.slice none 0 0] 31)) 1 (some ⟨w4.heap.size, 0, none⟩) 1 [.slice none 0 0] from rdn w4 _ 1 1 w4.heap.size #[.slice none 0 0] (0, 0) rfl rfl)
 have hM4' := zH (hM4.out.alloc (.cells #[.slice none 0 0] 31))
 have hf4' : Fresh w3 A4 := hf4
 have hm34 := zH (hm4.alloc (.cells #[.slice none 0 0] 31))
 have hml := zH (hmd.out.lt)
 have hs3 := zH (hM3.out.size)
 have hbl3 := zH (hbk3.out.lt)
 obtain ⟨i0, hi0, hz0, hz1, hz2⟩ := info_parts Kn.slginfo
 clear kC ho4 hf4 hm4 hmd4
 replace hf4' := zH hf4'
 go_wp2_with (at_builtin; refine wpList_append_ow rfl (.tmp 27) (.tmp 28) 165 rfl 31 i0 _ 1 24 Tryz.underlying165 hi0 hz0 hz1 hz2 rfl (by omega) A4 0 c4 ((List.replicate 0 L0).map SV.v) rfl ho4'.out (some ⟨w4.heap.size, 0, none⟩) 1 1 [.slice none 0 0] rfl hr4.out (by simp [Value.oneCell']) (by omega) (by omega) ?_; intro A5 c5 w5 ho5 hm5 hA5)
 have hnew : ∀ j, fp A4 j → w3.heap.size ≤ j := fun j ⟨a, ha, hj⟩ => by have := hf4'.out a ha; omega
 have hg5 := rdG_nil w5 A5 1 (by have := Ow.rd ho5; rw [List.map_replicate] at this; exact this)
 have hbk5 := hbk4.out.mod hm5 (fun hh => by have := hnew _ hh; have := hbl3.out; omega)
 have hmd5 := hmd4'.out.mod hm5 (fun hh => by have := hnew _ hh; have := hml.out; omega)
 have hM5 := hM4'.out.then hm5 (fun j hj hh => by have := hnew j hh; have := hs3.out; omega)
 have hm35 := zH (hm34.out.then hm5 (fun j hj hh => by have := hnew j hh; omega))
 have hkn : Rd w5 1 (some ⟨w1.heap.size + 1, 0, none⟩) 0 (Kn.tvs (List.replicate 0 true)) := (by exact Rd.none_)
 have kO := Kn.open_ok w5 A5 1 c5 _ _ hg5 (by omega) (some ⟨w1.heap.size + 1, 0, none⟩) 0 0 (List.replicate 0 true) hkn (by omega)
 rw [openL_0] at kO
 clear hm5 hA5 ho5 hnew ho4' hr4
 replace hg5 := zH hg5
 replace hbk5 := zH hbk5
 replace hmd5 := zH hmd5
 replace hM5 := zH hM5
 replace hkn := zH hkn
 replace kO := zH kO
 go_wp2_with fail
 refine kO.out.mono ?_
 rintro e w6 ⟨B6, c6, rfl, ho6, hf6, hm6⟩
 dsimp only
 have hlr : (List.range 0).length = 0 := List.length_range
 rw [hlr] at ho6 ⊢
 have hM6 := zH (hM5.out.trans hm6)
 have hmd6 := zH (hmd5.out.mod hm6 (fun h => h))
 have h6l := zH hm6.size
 have hs12 := zH (show w1.heap.size < w2.heap.size from hs12')
 have hs26 : w2.heap.size < w5.heap.size := hmd5.out.lt
 have hm36 := zH (hm35.out.trans hm6)
 have hm16 := zH (hm13.out.trans hm36.out)
 have hg6 : Kn.RdG w6 G 0 (List.replicate 0 L0) (List.replicate 0 []) := hg3.out.mod0 hm36.out
 clear hm6 kO
 replace ho6 := zH ho6
 replace hf6 := zH hf6
 replace hg6 := zH hg6
 go_wp2_with fail
 go_loopw [33] (fun y wr => ∃ (j : Nat) (L : List IntV), y = .int .i64 (j : Int) ∧ j ≤ 0 ∧ MapN wr w2.heap.size L ∧ (0 < j → findN L 0 = some (.bool true)) ∧ L.length ≤ j ∧ Mod (· = w2.heap.size) w6 wr) (fun y _ => 0 - (intOf y).toNat)
 case atStart => exact ⟨0, [], rfl, by omega, hmd6.out, fun h => absurd h (by omega), Nat.le_refl _, Mod.refl _ _⟩
 case round =>
  obtain ⟨j, Lm, rfl, hj, hMN, hfi, hll, hm⟩ := hrel
  by_cases hlt : j < 0
  ·exact absurd hlt (by omega)
  ·obtain rfl : j = 0 := by omega
   have hgr := rdG_nil wr G 0 Rd.none_
   have kX := Kn.order_ok wr G 0 0 _ _ hgr (by omega)
   have hmw := zH (hm16.out.then hm (fun q hq e => by have e2 : q = w2.heap.size := e; have := hs12.out; omega))
   have hfi' := zH hfi
   clear hgr hm hfi
   replace hMN := zH hMN
   replace kX := zH kX
   go_wp2_with fail
   refine kX.out.mono ?_
   rintro e w7 ⟨ks, hks, B7, c7, rfl, ho7, hf7, hm7⟩
   dsimp only
   have hfl := kseq_0 hks
   rw [hfl] at ho7 ⊢
   rw [hlr] at ho7 ⊢
   have hm17 := zH (hmw.out.trans hm7)
   have hM7 := zH (hm1.out.trans hm17.out)
   have hMN7 := zH (hMN.out.mod hm7 (fun h => h))
   clear hm7 kX hks hfl
   replace ho7 := zH ho7
   replace hf7 := zH hf7
   go_wp2_with fail
   go_loopw [43, 9] (fun y v wr => y = .int .i64 0 ∧ v = .slice none 0 0 ∧ Mod none_ w7 wr) (fun y _ _ => 0)
   case atStart => exact ⟨rfl, rfl, Mod.refl _ _⟩
   case round =>
    obtain ⟨rfl, rfl, hmz⟩ := hrel
    have hend := zH (hM7.out.trans hmz)
    clear hmz
    go_wp2_with fail
    go_ret
    exact ⟨⟨_, rfl⟩, hend.out⟩
def Run1Post (w : World) (col : Col) (k : Nat) (b : RpB) (me n : Int) (X : RpS) (i : Is) (o : Od) (L : SV) (e : Ending) (w' : World) : Prop :=
 (∃ v, e = .returned v) ∧ ∃ A c col', RpM w' col' k b me n { X with D := putI' i (.bool true) X.D, T := putI' (idI o) rep6 X.T, LA := A, ln := X.ln + 1, lc := c, lv := X.lv ++ odV o L } ∧ Ext w col col' ∧ Mod (own col k) w w'
theorem run1_ok (w : World) (col : Col) (k : Nat) (b : RpB) (me n : Int) (X : RpS) (h : RpM w col k b me n X) (i : Is) (en : En) (L D : SV) (hK : X.K = [(i, enV en L D)]) (hDn : D.n = 0) (hE : ∀ W, OdM W en.o L) (hno : en.none = false) (hD : findI X.D i = none) (hDl : X.D.length + 1 < maxLen)
  (hk : en.o.k = 7) (hr : rightO en.o = true) (hL : L.n ≤ 140737488355328) (hz : ∀ l ∈ en.o.legs, (txt l.n).size ≤ maxLen) (hg : getV X.C en.o.acct = (zeroA, 6)) (hsz : (txt en.o.acct).size ≤ maxLen) (hid : inI (idI en.o)) (hT : findI X.T (idI en.o) = none) (hTl : X.T.length + 1 < maxLen) (hln : X.ln ≤ 1000000) :
  Calls Tryz.prog 54 #[.pointer (some ⟨b.rn.q, 0, none⟩)] w (Run1Post w col k b me n X i en.o L) := by
 have hKl : X.K.length = 1 := by rw [hK]; rfl
 have hnd : NoDeps X.K := by
  rw [hK]
  intro p hp
  rw [List.mem_singleton.1 hp]
  exact ⟨en, L, D, rfl, hDn⟩
 have hKm := h.rn.kn
 have c0 : w.cell? ⟨b.rn.q, 0, none⟩ = some (.map (some b.rn.kn)) := h.rn.q.cell_ rfl
 have hlq := h.rn.q.lt
 have kG := graph_ok w b.rn.q b.rn.kn X.K c0 hKm (by omega) hnd
 unfold GrPost at kG
 rw [hKl] at kG
 have hmk := fun W => run_makeMap (P := Tryz.prog) 93 W
 replace kG := zH kG
 replace h := zH h
 replace hKm := zH hKm
 replace hnd := zH hnd
 replace hDn := zH hDn
 replace hE := zH hE
 replace hno := zH hno
 replace hk := zH hk
 replace hr := zH hr
 replace hg := zH hg
 replace hT := zH hT
 replace hid := zH hid
 replace hD := zH hD
 replace hz := zH hz
 replace hK := zH hK
 go_enter Tryz.func54, Tryz.ntmps54
 go_wp2_with fail
 refine kG.out.mono ?_
 rintro e w1 ⟨A, c, ss, G, rfl, hp, ho, hf, hgr, hgf, hm1⟩
 dsimp only
 have kR := zH (Kn.repeatT_ok (w1.alloc (.cells #[.bool true] 4)) w1.heap.size 1 ((Blk.new w1 _ #[.bool true]).cell_ rfl) 1 (by omega))
 have hm1' := zH (hm1.alloc (.cells #[.bool true] 4))
 have hg1 := zH (hgr.mod0 ((Mod.refl none_ w1).alloc (.cells #[.bool true] 4)))
 have hgl : ∀ a, G = some a → a.block < w1.heap.size := fun a ha => by
  obtain ⟨b9, o9, hG9, hc9⟩ := Rd.form hgr.1 (by omega) (by omega)
  have := World.block_lt_of_cell? w1 _ (hc9 0 _ rfl)
  rw [hG9] at ha; cases ha; exact this
 replace hp := zH hp
 replace ho := zH ho
 replace hf := zH hf
 replace hgf := zH hgf
 replace hm1 := zH hm1
 replace hgr := zH hgr
 replace hgl := zH hgl
 go_wp2_with fail
 refine kR.out.mono ?_
 rintro e w2 ⟨rfl, hbk, hm2⟩
 dsimp only
 have hs1 : (w1.alloc (.cells #[.bool true] 4)).heap.size = w1.heap.size + 1 := by simp
 rw [hs1] at hbk
 clear hs1
 have hM2 := zH (hm1'.out.trans hm2)
 have hg2 := hg1.out.mod0 hm2
 have hmd := MapN.made w2
 have hm3 := (Mod.refl none_ w2).alloc (.map #[] 0)
 obtain ⟨w3, hw3⟩ : ∃ w3, w3 = w2.alloc (.map #[] 0) := ⟨_, rfl⟩
 rw [← hw3] at hmd hm3
 have hM3 := zH (hM2.out.trans hm3)
 have hm13 := zH ((((Mod.refl none_ w1).alloc (.cells #[.bool true] 4)).trans hm2).trans hm3)
 have hg3 := hg2.mod0 hm3
 have hbk3 := zH (hbk.mod hm3 (fun h => h))
 have kC := zH (cloneRw_ok w3 ((List.replicate 1 L0).map SV.v) (by intro u hu; rw [List.map_replicate] at hu; rw [List.eq_of_mem_replicate hu]; rfl) G 1 1 hg3.1 (by omega))
 have hs12' : w1.heap.size < w2.heap.size := by have := hm2.size; simp at this; omega
 clear kR hm2 hg1 hg2 hbk
 replace hmd := zH hmd
 replace hm3 := zH hm3
 replace hg3 := zH hg3
 go_upto_region 6 with fail
 rw [← hw3]
 replace hw3 := zH hw3
 go_wp2_with fail
 refine kC.out.mono ?_
 rintro e w4 ⟨A4, c4, rfl, ho4, hf4, hm4⟩
 dsimp only
 have hM4 := zH (hM3.out.trans hm4)
 have ho4' := zH (Ow.mod0 ho4 ((Mod.refl none_ w4).alloc (.cells #[.slice none 0 0] 31)))
 have hmd4 := hmd.out.mod hm4 (fun h => h)
 have hmd4' := zH (hmd4.mod ((Mod.refl none_ w4).alloc (.cells #[.slice none 0 0] 31)) (fun h => h))
 have hbk4 := zH ((hbk3.out.mod hm4 (fun h => h)).mod ((Mod.refl none_ w4).alloc (.cells #[.slice none 0 0] 31)) (fun h => h))
 have hr4 := zH (show Rd (w4.alloc (.cells #[.slice none 0 0] 31)) 1 (some ⟨w4.heap.size, 0, none⟩) 1 [.slice none 0 0] from rdn w4 _ 1 1 w4.heap.size #[.slice none 0 0] (0, 0) rfl rfl)
 have hM4' := zH (hM4.out.alloc (.cells #[.slice none 0 0] 31))
 have hf4' : Fresh w3 A4 := hf4
 have hm34 := zH (hm4.alloc (.cells #[.slice none 0 0] 31))
 have hml := zH (hmd.out.lt)
 have hs3 := zH (hM3.out.size)
 have hbl3 := zH (hbk3.out.lt)
 obtain ⟨i0, hi0, hz0, hz1, hz2⟩ := info_parts Kn.slginfo
 clear kC ho4 hf4 hm4 hmd4
 replace hf4' := zH hf4'
 go_wp2_with (at_builtin; refine wpList_append_ow rfl (.tmp 27) (.tmp 28) 165 rfl 31 i0 _ 1 24 Tryz.underlying165 hi0 hz0 hz1 hz2 rfl (by omega) A4 1 c4 ((List.replicate 1 L0).map SV.v) rfl ho4'.out (some ⟨w4.heap.size, 0, none⟩) 1 1 [.slice none 0 0] rfl hr4.out (by simp [Value.oneCell']) (by omega) (by omega) ?_; intro A5 c5 w5 ho5 hm5 hA5)
 have hnew : ∀ j, fp A4 j → w3.heap.size ≤ j := fun j ⟨a, ha, hj⟩ => by have := hf4'.out a ha; omega
 have hg5 := rdG_nil w5 A5 2 (by have := Ow.rd ho5; rw [List.map_replicate] at this; exact this)
 have hbk5 := hbk4.out.mod hm5 (fun hh => by have := hnew _ hh; have := hbl3.out; omega)
 have hmd5 := hmd4'.out.mod hm5 (fun hh => by have := hnew _ hh; have := hml.out; omega)
 have hM5 := hM4'.out.then hm5 (fun j hj hh => by have := hnew j hh; have := hs3.out; omega)
 have hm35 := zH (hm34.out.then hm5 (fun j hj hh => by have := hnew j hh; omega))
 have hkn : Rd w5 1 (some ⟨w1.heap.size + 1, 0, none⟩) 1 (Kn.tvs (List.replicate 1 true)) := ⟨rfl, fun _ => ⟨_, rfl, fun j u hu => by match j, hu with | 0, hu => cases hu; exact hbk5.cell_ rfl⟩⟩
 have kO := Kn.open_ok w5 A5 2 c5 _ _ hg5 (by omega) (some ⟨w1.heap.size + 1, 0, none⟩) 1 1 (List.replicate 1 true) hkn (by omega)
 rw [openL_1] at kO
 clear hm5 hA5 ho5 hnew ho4' hr4
 replace hg5 := zH hg5
 replace hbk5 := zH hbk5
 replace hmd5 := zH hmd5
 replace hM5 := zH hM5
 replace hkn := zH hkn
 replace kO := zH kO
 go_wp2_with fail
 refine kO.out.mono ?_
 rintro e w6 ⟨B6, c6, rfl, ho6, hf6, hm6⟩
 dsimp only
 have hlr : (List.range 1).length = 1 := List.length_range
 rw [hlr] at ho6 ⊢
 have hM6 := zH (hM5.out.trans hm6)
 have hmd6 := zH (hmd5.out.mod hm6 (fun h => h))
 have h6l := zH hm6.size
 have hs12 := zH (show w1.heap.size < w2.heap.size from hs12')
 have hs26 : w2.heap.size < w5.heap.size := hmd5.out.lt
 have hm36 := zH (hm35.out.trans hm6)
 have hm16 := zH (hm13.out.trans hm36.out)
 have hg6 : Kn.RdG w6 G 1 (List.replicate 1 L0) (List.replicate 1 []) := hg3.out.mod0 hm36.out
 clear hm6 kO
 replace ho6 := zH ho6
 replace hf6 := zH hf6
 replace hg6 := zH hg6
 go_wp2_with fail
 go_loopw [33] (fun y wr => ∃ (j : Nat) (L : List IntV), y = .int .i64 (j : Int) ∧ j ≤ 1 ∧ MapN wr w2.heap.size L ∧ (0 < j → findN L 0 = some (.bool true)) ∧ L.length ≤ j ∧ Mod (· = w2.heap.size) w6 wr) (fun y _ => 1 - (intOf y).toNat)
 case atStart => exact ⟨0, [], rfl, by omega, hmd6.out, fun h => absurd h (by omega), Nat.le_refl _, Mod.refl _ _⟩
 case round =>
  obtain ⟨j, Lm, rfl, hj, hMN, hfi, hll, hm⟩ := hrel
  by_cases hlt : j < 1
  ·obtain rfl : j = 0 := by omega
   have hor := Ow.mod ho6.out hm (fun q hq hh => by have e2 : q = w2.heap.size := hh; obtain ⟨a, ha, rfl⟩ := hq; have := hf6.out a ha; omega)
   obtain ⟨bb, oo, hB, hx, y1⟩ := Kn.rdi_get (show RdI wr B6 1 (Kn.zs (List.range 1)) from Ow.rd hor) (j := 0) (by omega)
   have y2 : wr.cell? ⟨bb, oo, none⟩ = some (.int .i64 0) := y1
   subst hB
   obtain ⟨wz, hrun, hMz, hmz, hsz⟩ := MapN.store_run (w := wr) hMN (t := 93) (e := 4) Tryz.underlying93 (by simp only [maxLen]; omega) (i := 0) (by decide) (.bool true)
   unfold inV at hrun
   have hmw := zH (hm.trans hmz)
   have lbb := World.block_lt_of_cell? wr _ y2
   dsimp only at lbb
   clear y1 hor hMN hm hmz hx
   replace hMz := zH hMz
   go_wp2_with fail
   go_roundw
   case rel => exact ⟨1, _, by go_num, by omega, hMz.out, fun _ => findN_put_same _ _ _, by have := List.length_filter_le (fun p : IntV => !(p.1 == 0)) Lm; unfold putN; simp only [List.length_cons]; omega, hmw.out⟩
   case measure => simp [intOf]
  ·obtain rfl : j = 1 := by omega
   have hgr := rdG_nil wr G 1 (Rd.mod (show Rd w6 1 G 1 (List.replicate 1 (.slice none 0 0)) from hg6.out.1) hm (fun q hq hh => by have e2 : q = w2.heap.size := hh; obtain ⟨a, ha, rfl⟩ := hq; have := hgl.out a ha; have := hs12.out; omega))
   have kX := Kn.order_ok wr G 1 1 _ _ hgr (by omega)
   have hmw := zH (hm16.out.then hm (fun q hq e => by have e2 : q = w2.heap.size := e; have := hs12.out; omega))
   have hfi' := zH hfi
   clear hgr hm hfi
   replace hMN := zH hMN
   replace kX := zH kX
   go_wp2_with fail
   refine kX.out.mono ?_
   rintro e w7 ⟨ks, hks, B7, c7, rfl, ho7, hf7, hm7⟩
   dsimp only
   have hfl := kseq_1 hks
   rw [hfl] at ho7 ⊢
   rw [hlr] at ho7 ⊢
   have hm17 := zH (hmw.out.trans hm7)
   have hM7 := zH (hm1.out.trans hm17.out)
   have hMN7 := zH (hMN.out.mod hm7 (fun h => h))
   clear hm7 kX hks hfl
   replace ho7 := zH ho7
   replace hf7 := zH hf7
   go_wp2_with fail
   have hss : ss = [i] := by
    have := hp.out
    rw [hK.out] at this
    exact List.perm_singleton.1 this
   go_loopw [43, 9] (fun y v wr => (y = .int .i64 0 ∧ v = .slice none 0 0 ∧ Mod none_ w7 wr) ∨ (y = .int .i64 1 ∧ (∃ A n c, v = .slice A n c) ∧ ∃ A c col', RpM wr col' k b me n { X with D := putI' i (.bool true) X.D, T := putI' (idI en.o) rep6 X.T, LA := A, ln := X.ln + 1, lc := c, lv := X.lv ++ odV en.o L } ∧ Ext w col col' ∧ Mod (own col k) w wr)) (fun y _ _ => 1 - (intOf y).toNat)
   case atStart => exact .inl ⟨rfl, rfl, Mod.refl _ _⟩
   case round =>
    rcases hrel with ⟨rfl, rfl, hmz⟩ | ⟨rfl, ⟨A9, n9, c9, rfl⟩, hfin⟩
    ·have hMr := zH (hM7.out.trans hmz)
     have hm1r := zH (hm17.out.trans hmz)
     have hor := Ow.mod0 ho7.out hmz
     obtain ⟨bb, oo, hB, hx, y1⟩ := Kn.rdi_get (show RdI wr B7 1 (Kn.zs (List.range 1)) from Ow.rd hor) (j := 0) (by omega)
     have y2 : wr.cell? ⟨bb, oo, none⟩ = some (.int .i64 0) := y1
     subst hB
     have hss1 := Ow.mod0 ho.out hm1r.out
     obtain ⟨g, o9, x, hA, _, hx9, z1, z2⟩ := rdp_get (show RdP wr A 1 ss from Ow.rd hss1) (j := 0) (by omega)
     rw [hss] at hx9
     obtain rfl : x = i := by simpa using hx9.symm
     subst hA
     have lbb := World.block_lt_of_cell? wr _ y2
     have lgg := World.block_lt_of_cell? wr _ z1
     dsimp only at lbb lgg
     have z1' : wr.cell? ⟨g, o9, none⟩ = some (.int .i64 x.r) := by simpa using z1
     have z2' : wr.cell? ⟨g, o9 + 1, none⟩ = some (.int .i64 x.n) := by simpa using z2
     have hhr := zH (h.out.mod0 hMr.out)
     have hMNr := zH (hMN7.out.mod hmz (fun h => h))
     clear y1 hor hss1 hx z1 z2 hmz hx9
     go_upto_region 16 with fail
     obtain ⟨W2, hW2⟩ : ∃ W2, W2 = wr.alloc (.cells #[.int .i64 x.r, .int .i64 x.n] 27) := ⟨_, rfl⟩
     have hmW : Mod none_ wr W2 := by rw [hW2]; exact (Mod.refl none_ wr).alloc _
     have hbW : Blk W2 wr.heap.size 27 #[.int .i64 x.r, .int .i64 x.n] := by rw [hW2]; exact Blk.new wr _ _
     have hinx : inI x := (h.out.rn.kn.wf (x, enV en L D) (by rw [hK.out]; exact List.mem_singleton.2 rfl))
     have lkO : ∀ q, (Instr.lookup 93 (.map (some w2.heap.size)) (.int .i64 0) false).run Tryz.prog (W2.drewN q) = .ok (.bool true) (W2.drewN q) := by
      intro q
      have := ((hMNr.out.mod hmW (fun h => h)).mod ((Mod.refl none_ W2).drewN q) (fun h => h)).get_run (t := 93) (e := 4) (z := .bool false) Tryz.underlying93 (by rfl) (i := 0) (by decide)
      rw [hfi'.out (by omega)] at this
      exact this
     have lkD : ∀ q, (Instr.lookup 143 (.map (some b.rn.dn)) (.agg #[.int .i64 x.r, .int .i64 x.n]) false).run Tryz.prog (W2.drewN q) = .ok (.bool false) (W2.drewN q) := by
      intro q
      have := ((hhr.out.rn.dn.mod hmW (fun h => h)).mod ((Mod.refl none_ W2).drewN q) (fun h => h)).get_run (t := 143) (z := .bool false) Tryz.underlying143 (by rfl) hinx
      rw [hD.out] at this
      exact this
     have hqW := hhr.out.rn.q.mod hmW (fun h => h)
     have cW1 : W2.cell? ⟨b.rn.q, 1, none⟩ = some (.map (some b.rn.dn)) := hqW.cell_ rfl
     have cW0 : W2.cell? ⟨b.rn.q, 0, none⟩ = some (.map (some b.rn.kn)) := hqW.cell_ rfl
     have lqW := hqW.lt
     have lbW := hbW.lt
     have xW1 : W2.cell? ⟨wr.heap.size, 0, none⟩ = some (.int .i64 x.r) := hbW.cell_ rfl
     have xW2 : W2.cell? ⟨wr.heap.size, 1, none⟩ = some (.int .i64 x.n) := hbW.cell_ rfl
     have hrs : Hid (w.heap.size ≤ wr.heap.size) := zH hMr.out.size
     have hhW := zH (hhr.out.mod0 hmW)
     have hMW := zH (hMr.out.trans hmW)
     replace hqW := zH hqW
     replace hbW := zH hbW
     replace hmW := zH hmW
     replace hW2 := zH hW2
     replace hinx := zH hinx
     rw [← hW2.out]
     go_quiet (fail)
     go_upto_region 17 with fail
     obtain ⟨W3, hW3⟩ : ∃ W3, W3 = W2.drewN nq := ⟨_, rfl⟩
     rw [← hW3]
     have hm23 : Mod none_ W2 W3 := by rw [hW3]; exact (Mod.refl none_ W2).drewN _
     have hh3 := hhW.out.mod0 hm23
     obtain ⟨w8, hrun8, hdn8, hm8, hsz8⟩ := MapK.store_run (w := W3.drew) (hh3.rn.dn.mod (Mod.refl none_ W3).drew (fun h => h)) Tryz.underlying143 hDl hinx.out (.bool true)
     unfold isVal at hrun8
     have hm38 : Mod (· = b.rn.dn) W3 w8 := (Mod.refl (· = b.rn.dn) W3).drew.trans hm8
     have hO := Off.one hh3.lies (g := b.rn.dn) (c := 10) (by simp [RpB.all])
     have hO' : Off W3 col k [8, 9, 10, 11, 12, 13, 14, 15, 16, 17] (· = b.rn.dn) := fun j hj hf c hc => hO j hj hf c (fun hh => hc (by simp at hh ⊢; omega))
     have hh8 := zH (hh3.set_rn hm38 hO' (K := X.K) (D := putI' x (.bool true) X.D) (T := X.T) (A := X.LA) (ln := X.ln) (c := X.lc) (C := X.C) (cl := X.cl) (lv := X.lv)
      ⟨hh3.rn.q.mod hm38 (hO.nf hh3.lies (c := 8) (by simp [RpB.all]) (by decide)), hh3.rn.kn.mod hm38 (hO.nf hh3.lies (c := 9) (by simp [RpB.all]) (by decide)), hdn8, hh3.rn.tl.mod hm38 (hO.nf hh3.lies (c := 11) (by simp [RpB.all]) (by decide)),
       hh3.rn.book.mod hm38 (hO.nf hh3.lies (c := 12) (by simp [RpB.all]) (by decide)) (hO.nf hh3.lies (c := 13) (by simp [RpB.all]) (by decide)) (hO.nf hh3.lies (c := 14) (by simp [RpB.all]) (by decide)) (hO.nf hh3.lies (c := 15) (by simp [RpB.all]) (by decide)) (hO.nf hh3.lies (c := 16) (by simp [RpB.all]) (by decide))⟩
      (hh3.la.grow (Ext.refl _ _) hm38.size) (hh3.ls.mod hm38 (hO.nfa hh3.la (by decide))))
     have hdl : b.rn.dn < w.heap.size := (h.out.lies (b.rn.dn, 10) (by simp [RpB.all])).1
     have hbW3 := hbW.out.mod hm23 (fun h => h)
     have hbW8 := zH (hbW3.mod hm38 (fun e => by have e2 : wr.heap.size = b.rn.dn := e; have := hrs.out; omega))
     have hM8 := zH (((hMW.out.trans hm23).any (own col k)).trans (hm38.mono (fun j hj => own_one h.out.lies (c := 10) (by simp [RpB.all]) j hj)))
     have hq3 := hh3.rn.q
     have cV1 : W3.cell? ⟨b.rn.q, 1, none⟩ = some (.map (some b.rn.dn)) := hq3.cell_ rfl
     have lqV := hq3.lt
     have lbV := hbW3.lt
     have xV1 : W3.cell? ⟨wr.heap.size, 0, none⟩ = some (.int .i64 x.r) := hbW3.cell_ rfl
     have xV2 : W3.cell? ⟨wr.heap.size, 1, none⟩ = some (.int .i64 x.n) := hbW3.cell_ rfl
     clear lkO lkD cW1 cW0 xW1 xW2 hm8 hsz8 hdn8 hm38 hO hO'
     replace hbW3 := zH hbW3
     replace hq3 := zH hq3
     replace hh3 := zH hh3
     replace hW3 := zH hW3
     replace hm23 := zH hm23
     refine wp_region_still_tail 5 (by kernel_rfl) (by kernel_rfl) ?_
     simp only [List.take_succ_cons, List.take_zero, List.drop_succ_cons, List.drop_zero]
     change wpStill _ _ (World.drew _) _ _ _
     repeat still_step
     refine wpStill_nil ?_
     change wpList _ _ _ _ _ (World.drew _)
     go_upto_region 18 with fail
     have hze := zH (Blk.new w8.drew 53 #[.int .i64 0, .int .i64 0, .int .i64 0, .string ⟨#[]⟩, .string ⟨#[]⟩, .int .i64 0, .slice none 0 0, .int .i64 0, .int .i64 0, .string ⟨#[]⟩, .bool false, .slice none 0 0])
     have hma := zH ((Mod.refl none_ w8).drew.alloc (.cells #[.int .i64 0, .int .i64 0, .int .i64 0, .string ⟨#[]⟩, .string ⟨#[]⟩, .int .i64 0, .slice none 0 0, .int .i64 0, .int .i64 0, .string ⟨#[]⟩, .bool false, .slice none 0 0] 53))
     refine wp_region_held_drew (S := fun W => Mod none_ w8 W) (by kernel_rfl) (Mod.refl none_ w8).drew (fun hHeld => ?_)
     refine tkZ 0 ?_ rfl ?_ ?_
     rotate_left
     ·intro W hSw; (try dsimp only at hSw); go_simp; (try with_reducible rfl)
     try simp only [Act.put, q1Z, q2Z, q3Z, q4Z, q5Z, q6Z]
     refine tkZ 1 ?_ rfl ?_ ?_
     rotate_left
     ·intro W hSw; (try dsimp only at hSw); go_simp; (try with_reducible rfl)
     try simp only [Act.put, q1Z, q2Z, q3Z, q4Z, q5Z, q6Z]
     refine tkZ 2 ?_ rfl ?_ ?_
     rotate_left
     ·intro W hSw; (try dsimp only at hSw); go_simp; (try with_reducible rfl)
     try simp only [Act.put, q1Z, q2Z, q3Z, q4Z, q5Z, q6Z]
     refine tkZ 3 ?_ rfl ?_ ?_
     rotate_left
     ·intro W hSw; have c3 : W.cell? ⟨b.rn.q, 0, none⟩ = some (.map (some b.rn.kn)) := (hh8.out.rn.q.mod hSw (fun h => h)).cell_ rfl; go_simp; (try with_reducible rfl)
     try simp only [Act.put, q1Z, q2Z, q3Z, q4Z, q5Z, q6Z]
     refine wpAnyH_take (i := 4) rfl (by kernel_rfl) (by kernel_rfl) (by kernel_rfl) (fun _ _ _ h => h) (yieldsIf_load_mid (by rfl) 27 (.tmp 12) rfl wr.heap.size 0 rfl [.int .i64 x.r, .int .i64 x.n] _ (fun W hW => Blk.range (hbW8.out.mod hW (fun h => h)) 0 _ rfl) Tryz.underlying27 rfl inst_size) (by assumption) ?_
     try simp only [Act.put, q1Z, q2Z, q3Z, q4Z, q5Z, q6Z]
     refine tkZ 5 ?_ rfl ?_ ?_
     rotate_left
     ·intro W hSw; have lk := (hh8.out.rn.kn.mod hSw (fun h => h)).get_run (t := 142) Tryz.underlying142 (zeroEn_run _) hinx.out; dsimp only at lk; rw [hK.out, show findI [(x, enV en L D)] x = some (enV en L D) from by simp [findI]] at lk; unfold enV isVal at lk; simp only [Option.getD_some] at lk; go_simp; (try with_reducible rfl)
     try simp only [Act.put, q1Z, q2Z, q3Z, q4Z, q5Z, q6Z]
     refine rdZ 6 rfl (fun K hK => ?_)
     go_simp
     refine hK.out _ _ (hma.out) (fun hHeld => ?_)
     clear hK K
     try simp only [Act.put, q1Z, q2Z, q3Z, q4Z, q5Z, q6Z]
     refine rdZ 7 rfl (fun K hK => ?_)
     refine step_store_blk rfl 53 (.tmp 13) (.tmp 73) rfl w8.heap.size 0 _ rfl rfl hze.out (by simp) entry_size (by rfl) #[.int .i64 en.o.c, .int .i64 en.o.s, .int .i64 en.o.k, .string (txt en.o.acct), .string (txt en.o.peer), .int .i64 en.o.sum, .slice L.a L.n L.c, .int .i64 en.o.per, .int .i64 en.o.hold, .string (txt en.o.note), .bool en.none, .slice D.a D.n D.c] rfl ?_
     intro w9 hb9 hm9
     have hm9' := hma.out.in_new (g := w8.heap.size) (Nat.le_refl _) hm9
     refine hK.out _ _ (hm9') (fun hHeld => ?_)
     clear hK K
     try simp only [Act.put, q1Z, q2Z, q3Z, q4Z, q5Z, q6Z]
     refine wpAnyH_done (by kernel_rfl) ?_ _
     clear hHeld hze hma hm9
     have hh9 := zH (hh8.out.mod0 hm9')
     have hM9 := zH (hM8.out.trans (hm9'.any _))
     have hbW9 := hbW8.out.mod hm9' (fun h => h)
     have s9 : w8.heap.size ≤ w9.heap.size := hm9'.size
     have kD := zH (do_ok w9 col k b me n { X with D := putI' x (.bool true) X.D } hh9.out x en.o L (hE.out w9) hk.out hr.out hL hz.out hg.out hsz hid.out hT.out hTl hln)
     have lb9 := hb9.lt
     have lW9 := hbW9.lt
     have xU1 : w9.cell? ⟨wr.heap.size, 0, none⟩ = some (.int .i64 x.r) := hbW9.cell_ rfl
     have xU2 : w9.cell? ⟨wr.heap.size, 1, none⟩ = some (.int .i64 x.n) := hbW9.cell_ rfl
     have hn9 : w9.cell? ⟨w8.heap.size, 10, none⟩ = some (.bool false) := by have h9 := hb9.cell_ (i := 10) rfl; rw [h9]; exact congrArg (fun q => some (Value.bool q)) hno.out
     clear hm9' hh8 hM8 cV1 lqV lbV xV1 xV2
     replace hb9 := zH hb9
     replace hbW9 := zH hbW9
     go_wp2_with (refine wpList_load_blk rfl 40 (.tmp 80) rfl w8.heap.size 0 rfl hb9.out [.int .i64 en.o.c, .int .i64 en.o.s, .int .i64 en.o.k, .string (txt en.o.acct), .string (txt en.o.peer), .int .i64 en.o.sum, .slice L.a L.n L.c, .int .i64 en.o.per, .int .i64 en.o.hold, .string (txt en.o.note)] rfl Tryz.underlying40 rfl order_size ?_)
     refine kD.out.mono ?_
     rintro e w10 ⟨rfl, A10, c10, col10, hh10, hx10, hm10⟩
     dsimp only [didV]
     obtain ⟨i1_, hi1, hy0, hy1, hy2⟩ := info_parts didinfo
     have hA10 := (Mod.refl none_ w10).alloc (.cells #[.int .i64 x.r, .int .i64 x.n, .int .i64 en.o.c, .int .i64 en.o.s, .int .i64 6, .int .i64 0, .int .i64 0, .int .i64 0, .bool false] 174)
     have hr10 := zH (show Rd (w10.alloc (.cells #[.int .i64 x.r, .int .i64 x.n, .int .i64 en.o.c, .int .i64 en.o.s, .int .i64 6, .int .i64 0, .int .i64 0, .int .i64 0, .bool false] 174)) 9 (some ⟨w10.heap.size, 0, none⟩) 1 [.int .i64 x.r, .int .i64 x.n, .int .i64 en.o.c, .int .i64 en.o.s, .int .i64 6, .int .i64 0, .int .i64 0, .int .i64 0, .bool false] from rdn w10 _ 9 1 w10.heap.size #[.int .i64 x.r, .int .i64 x.n, .int .i64 en.o.c, .int .i64 en.o.s, .int .i64 6, .int .i64 0, .int .i64 0, .int .i64 0, .bool false] (0, 0) rfl rfl)
     have hM10 := zH (hM9.out.then hm10 (fun j hj hh => hh))
     have hx10' := zH (show Ext w col col10 from fun j hj => hx10 j (Nat.lt_of_lt_of_le hj hM9.out.size))
     clear hx10 hm10 kD xU1 xU2 hn9 lb9 lW9
     replace hh10 := zH hh10
     replace hA10 := zH hA10
     go_wp2_with (at_builtin; refine wpList_append_ow rfl (.tmp 77) (.tmp 83) 117 rfl 174 i1_ _ 9 72 Tryz.underlying117 hi1 hy0 hy1 hy2 rfl (by omega) none 0 0 [] rfl (Ow.nil _ _ _) (some ⟨w10.heap.size, 0, none⟩) 1 1 [.int .i64 x.r, .int .i64 x.n, .int .i64 en.o.c, .int .i64 en.o.s, .int .i64 6, .int .i64 0, .int .i64 0, .int .i64 0, .bool false] rfl hr10.out (by intro u hu; simp only [List.mem_cons, List.not_mem_nil, or_false] at hu; rcases hu with rfl | rfl | rfl | rfl | rfl | rfl | rfl | rfl | rfl <;> rfl) (by omega) (by omega) ?_; intro A11 c11 w11 ho11 hm11 hA11)
     have hm11' := zH (hA10.out.trans (hm11.mono (fun j ⟨a, ha, _⟩ => by cases ha)))
     clear hm11 hA11 ho11
     go_wp2_with fail
     go_roundw
     case rel => exact ⟨_, _, _, _, _, .inr ⟨rfl, ⟨_, _, _, rfl⟩, A10, c10, col10, hh10.out.mod0 hm11'.out, hx10'.out, hM10.out.trans (hm11'.out.any _)⟩, rfl, rfl, rfl, rfl, rfl⟩
     case measure => simp [intOf]
    ·replace hfin := zH hfin
     go_wp2_with fail
     go_ret
     exact ⟨⟨_, rfl⟩, hfin.out⟩
theorem back_ok (w : World) (q : Nat) (me : Int) (c0 : w.cell? ⟨q, 0, none⟩ = some (.int .i64 me)) (m : Ms) (kind : Int) (x : Rs) :
  Calls Tryz.prog 140 #[.pointer (some ⟨q, 0, none⟩), .agg #[.int .i64 m.m.frm, .int .i64 m.m.to, .int .i64 m.m.kind, .int .i64 m.m.r.i.r, .int .i64 m.m.r.i.n, .int .i64 m.m.r.bal, .int .i64 m.m.r.st, .int .i64 m.m.r.by_, .int .i64 m.m.r.e.o.c, .int .i64 m.m.r.e.o.s, .int .i64 m.m.r.e.o.k, .string (txt m.m.r.e.o.acct), .string (txt m.m.r.e.o.peer), .int .i64 m.m.r.e.o.sum, .slice m.L.a m.L.n m.L.c, .int .i64 m.m.r.e.o.per, .int .i64 m.m.r.e.o.hold, .string (txt m.m.r.e.o.note), .bool m.m.r.e.none, .slice m.D.a m.D.n m.D.c], .int .i64 kind, .agg #[.int .i64 x.r.bal, .int .i64 x.r.st, .int .i64 x.r.by_, .int .i64 x.r.e.o.c, .int .i64 x.r.e.o.s, .int .i64 x.r.e.o.k, .string (txt x.r.e.o.acct), .string (txt x.r.e.o.peer), .int .i64 x.r.e.o.sum, .slice x.L.a x.L.n x.L.c, .int .i64 x.r.e.o.per, .int .i64 x.r.e.o.hold, .string (txt x.r.e.o.note), .bool x.r.e.none, .slice x.D.a x.D.n x.D.c]] w fun e w' =>
   ∃ A c, e = .returned (.slice A 1 c) ∧ OwM w' A 1 c [⟨⟨me, m.m.frm, kind, ⟨m.m.r.i, m.m.r.bal, x.r.st, x.r.by_, x.r.e⟩⟩, x.L, x.D⟩] ∧ Fresh w A ∧ Mod none_ w w' := by
 have hq := World.block_lt_of_cell? w _ c0
 dsimp only at hq
 obtain ⟨⟨frm, too, k0, r⟩, L, D⟩ := m
 dsimp only
 obtain ⟨W, hW⟩ : ∃ W, W = ((w.alloc (.cells #[.int .i64 frm, .int .i64 too, .int .i64 k0, .int .i64 r.i.r, .int .i64 r.i.n, .int .i64 r.bal, .int .i64 r.st, .int .i64 r.by_, .int .i64 r.e.o.c, .int .i64 r.e.o.s, .int .i64 r.e.o.k, .string (txt r.e.o.acct), .string (txt r.e.o.peer), .int .i64 r.e.o.sum, .slice L.a L.n L.c, .int .i64 r.e.o.per, .int .i64 r.e.o.hold, .string (txt r.e.o.note), .bool r.e.none, .slice D.a D.n D.c] 66)).alloc (.cells #[.int .i64 x.r.bal, .int .i64 x.r.st, .int .i64 x.r.by_, .int .i64 x.r.e.o.c, .int .i64 x.r.e.o.s, .int .i64 x.r.e.o.k, .string (txt x.r.e.o.acct), .string (txt x.r.e.o.peer), .int .i64 x.r.e.o.sum, .slice x.L.a x.L.n x.L.c, .int .i64 x.r.e.o.per, .int .i64 x.r.e.o.hold, .string (txt x.r.e.o.note), .bool x.r.e.none, .slice x.D.a x.D.n x.D.c] 55)) := ⟨_, rfl⟩
 have hb1 : Blk W w.heap.size 66 #[.int .i64 frm, .int .i64 too, .int .i64 k0, .int .i64 r.i.r, .int .i64 r.i.n, .int .i64 r.bal, .int .i64 r.st, .int .i64 r.by_, .int .i64 r.e.o.c, .int .i64 r.e.o.s, .int .i64 r.e.o.k, .string (txt r.e.o.acct), .string (txt r.e.o.peer), .int .i64 r.e.o.sum, .slice L.a L.n L.c, .int .i64 r.e.o.per, .int .i64 r.e.o.hold, .string (txt r.e.o.note), .bool r.e.none, .slice D.a D.n D.c] := by rw [hW]; exact (Blk.new w _ _).alloc _
 have hb2 : Blk W (w.heap.size + 1) 55 #[.int .i64 x.r.bal, .int .i64 x.r.st, .int .i64 x.r.by_, .int .i64 x.r.e.o.c, .int .i64 x.r.e.o.s, .int .i64 x.r.e.o.k, .string (txt x.r.e.o.acct), .string (txt x.r.e.o.peer), .int .i64 x.r.e.o.sum, .slice x.L.a x.L.n x.L.c, .int .i64 x.r.e.o.per, .int .i64 x.r.e.o.hold, .string (txt x.r.e.o.note), .bool x.r.e.none, .slice x.D.a x.D.n x.D.c] := by
  have := Blk.new (w.alloc (.cells #[.int .i64 frm, .int .i64 too, .int .i64 k0, .int .i64 r.i.r, .int .i64 r.i.n, .int .i64 r.bal, .int .i64 r.st, .int .i64 r.by_, .int .i64 r.e.o.c, .int .i64 r.e.o.s, .int .i64 r.e.o.k, .string (txt r.e.o.acct), .string (txt r.e.o.peer), .int .i64 r.e.o.sum, .slice L.a L.n L.c, .int .i64 r.e.o.per, .int .i64 r.e.o.hold, .string (txt r.e.o.note), .bool r.e.none, .slice D.a D.n D.c] 66)) 55 #[.int .i64 x.r.bal, .int .i64 x.r.st, .int .i64 x.r.by_, .int .i64 x.r.e.o.c, .int .i64 x.r.e.o.s, .int .i64 x.r.e.o.k, .string (txt x.r.e.o.acct), .string (txt x.r.e.o.peer), .int .i64 x.r.e.o.sum, .slice x.L.a x.L.n x.L.c, .int .i64 x.r.e.o.per, .int .i64 x.r.e.o.hold, .string (txt x.r.e.o.note), .bool x.r.e.none, .slice x.D.a x.D.n x.D.c]
  rw [hW]; simpa using this
 have hm : Mod none_ w W := by rw [hW]; exact ((Mod.refl none_ w).alloc _).alloc _
 have d0 : W.cell? ⟨q, 0, none⟩ = some (.int .i64 me) := hm.cell_some c0 (fun h => h)
 have hW1 := hb1.lt
 have hW2 := hb2.lt
 have hb1_0 := hb1.cell_ (i := 0) rfl
 have hb1_1 := hb1.cell_ (i := 1) rfl
 have hb1_2 := hb1.cell_ (i := 2) rfl
 have hb1_3 := hb1.cell_ (i := 3) rfl
 have hb1_4 := hb1.cell_ (i := 4) rfl
 have hb1_5 := hb1.cell_ (i := 5) rfl
 have hb2_1 := hb2.cell_ (i := 1) rfl
 have hb2_2 := hb2.cell_ (i := 2) rfl
 have hb2_3 := hb2.cell_ (i := 3) rfl
 have hb2_4 := hb2.cell_ (i := 4) rfl
 have hb2_5 := hb2.cell_ (i := 5) rfl
 have hb2_6 := hb2.cell_ (i := 6) rfl
 have hb2_7 := hb2.cell_ (i := 7) rfl
 have hb2_8 := hb2.cell_ (i := 8) rfl
 have hb2_9 := hb2.cell_ (i := 9) rfl
 have hb2_10 := hb2.cell_ (i := 10) rfl
 have hb2_11 := hb2.cell_ (i := 11) rfl
 have hb2_12 := hb2.cell_ (i := 12) rfl
 have hb2_13 := hb2.cell_ (i := 13) rfl
 have hb2_14 := hb2.cell_ (i := 14) rfl
 go_enter Tryz.func140, Tryz.ntmps140
 go_wp2_with fail
 rw [← hW]
 replace hb1 := zH hb1
 replace hb2 := zH hb2
 replace hW := zH hW
 replace hm := zH hm
 refine wp_region_still_tail 17 (by kernel_rfl) (by kernel_rfl) ?_
 simp only [List.take_succ_cons, List.take_zero, List.drop_succ_cons, List.drop_zero]
 change wpStill _ _ (World.drew _) _ _ _
 repeat still_step
 refine wpStill_nil ?_
 change wpList _ _ _ _ _ (World.drew _)
 go_wp2_with fail
 go_ret
 exact ⟨_, _, rfl, Ow.new _ _ _ _ _ (by decide) rfl, fun a ha => by cases ha; exact hm.out.size, (hm.out.drew.alloc _)⟩
end Go.Proofs.YtfkfiokkjjnhiaaGreat
