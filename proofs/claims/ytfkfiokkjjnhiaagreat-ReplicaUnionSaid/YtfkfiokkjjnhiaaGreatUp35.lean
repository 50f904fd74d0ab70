import Derived.Test.YtfkfiokkjjnhiaaGreatUp34
set_option linter.unusedVariables false
set_option linter.unusedSimpArgs false
set_option maxHeartbeats 16000000
namespace Go.Proofs.YtfkfiokkjjnhiaaGreat
open Go.RowKit
def tblN : List Nat := [3, 9, 10, 11, 14, 13, 16, 15, 12, 8, 4, 5, 6, 7, 0]
def colN (w : World) (col : Col) (k s : Nat) : Col := fun j => if j < s then col j else if j < s + 15 then (k, tblN.getD (j - s) 99) else (99, 0)
theorem colN_at {w : World} {col : Col} {k s i : Nat} (h : i < 15) : colN w col k s (s + i) = (k, tblN.getD i 99) := by
 unfold colN
 rw [if_neg (by omega), if_pos (by omega), show s + i - s = i by omega]
def bN (s d : Nat) : RpB := ⟨s + 14, d, s, s + 10, s + 11, s + 12, s + 13, rnB0 (s + 1)⟩
def xN (c sr : Nat) : RpS := ⟨[], [], [], [], [], [], [], [], none, 0, 0, [], [], 0, none, c, [], sr⟩
def RepNew (w : World) (col : Col) (k d : Nat) (me : Int) (e : Ending) (w' : World) : Prop :=
 ∃ b X col', e = .returned (.tuple #[.pointer (some ⟨b.q, 0, none⟩), .int .i64 0]) ∧ RpM w' col' k b me 3 X ∧ Blank X ∧ X.Wt = [] ∧ Ext w col col' ∧ Mod (own col k) w w'
set_option maxRecDepth 100000
theorem rnew_ok (w : World) (col : Col) (k d : Nat) (me : Int) (hd : Dk w d none 0 ⟨[], 0, RpW, false⟩) (hcd : col d = (k, 1)) (hme0 : 0 ≤ me) (hme3 : me < 3) :
  Calls Tryz.prog 21 #[.int .i64 me, .int .i64 3, .pointer (some ⟨d, 0, none⟩)] w (RepNew w col k d me) := by
 have kT := zH (trim0_ok w d RpW hd)
 have g1 : decide (me < 0) = false := by simpa using hme0
 have g1' : ¬ me < 0 := by omega
 have g2 : decide (3 ≤ me) = false := by simpa using hme3
 have g2' : ¬ 3 ≤ me := by omega
 have hdl := hd.1.lt
 replace hd := zH hd
 replace hcd := zH hcd
 go_enter Tryz.func21, Tryz.ntmps21
 go_wp2_with fail
 refine kT.out.mono ?_
 rintro e w1 ⟨A1, c1, rfl, hd1, hm1⟩
 dsimp only
 have hd1' : Dk w1 d none 0 ⟨[], 0, RpW, false⟩ := hd1
 have hmk1 := fun W => run_makeMap (P := Tryz.prog) 82 W
 have hmk2 := fun W => run_makeMap (P := Tryz.prog) 84 W
 have hmk3 := fun W => run_makeMap (P := Tryz.prog) 85 W
 have hmk4 := fun W => run_makeMap (P := Tryz.prog) 86 W
 obtain ⟨s, hs⟩ : ∃ s, s = w1.heap.size := ⟨_, rfl⟩
 obtain ⟨w2, hw2⟩ : ∃ w2, w2 = w1.alloc (.map #[] 0) := ⟨_, rfl⟩
 have hs2 : w2.heap.size = s + 1 := by rw [hw2, hs]; simp
 have hm12 : Mod none_ w1 w2 := by rw [hw2]; exact (Mod.refl none_ w1).alloc _
 have hsl2 : MapK w2 s [] := by rw [hw2, hs]; exact MapK.made w1
 clear hd1 kT
 replace hd1' := zH hd1'
 replace hm1 := zH hm1
 replace hm12 := zH hm12
 replace hsl2 := zH hsl2
 replace hs := zH hs
 replace hs2 := zH hs2
 replace hw2 := zH hw2
 go_wp2_with fail
 rw [← hw2.out]
 refine (runnerNew_ok w2).mono ?_
 rintro e w3 ⟨rfl, hrn3, hs3, hm3⟩
 dsimp only
 have hs3' := zH (show w3.heap.size = s + 10 from by rw [hs3, hs2.out])
 rw [hs2.out] at hrn3
 obtain ⟨w4, hw4⟩ : ∃ w4, w4 = ((((w3.alloc (.map #[] 0)).alloc (.map #[] 0)).alloc (.map #[] 0)).alloc (.map #[] 0)).alloc (.cells #[.int .i64 me, .int .i64 3, .pointer (some ⟨d, 0, none⟩), .map (some s), .pointer (some ⟨s + 9, 0, none⟩), .map (some (s + 10)), .map (some (s + 11)), .map (some (s + 12)), .map (some (s + 13)), .slice none 0 0] 88) := ⟨_, rfl⟩
 have hm34 : Mod none_ w3 w4 := by rw [hw4]; exact (((((Mod.refl none_ w3).alloc _).alloc _).alloc _).alloc _).alloc _
 have hld : MapK w4 (s + 10) [] := by
  rw [hw4, ← hs3'.out]
  exact ((((MapK.made w3).alloc _).alloc _).alloc _).alloc _
 have hrf : MapK w4 (s + 11) [] := by
  have := hs3'.out
  rw [hw4]
  exact (((MapK.made' (w3.alloc (.map #[] 0)) (b := s + 11) (by simp; omega)).alloc _).alloc _).alloc _
 have hwt : MapK w4 (s + 12) [] := by
  have := hs3'.out
  rw [hw4]
  exact ((MapK.made' ((w3.alloc (.map #[] 0)).alloc (.map #[] 0)) (b := s + 12) (by simp; omega)).alloc _).alloc _
 have htl : MapK w4 (s + 13) [] := by
  have := hs3'.out
  rw [hw4]
  exact (MapK.made' (((w3.alloc (.map #[] 0)).alloc (.map #[] 0)).alloc (.map #[] 0)) (b := s + 13) (by simp; omega)).alloc _
 have hq : Blk w4 (s + 14) 88 #[.int .i64 me, .int .i64 3, .pointer (some ⟨d, 0, none⟩), .map (some s), .pointer (some ⟨s + 9, 0, none⟩), .map (some (s + 10)), .map (some (s + 11)), .map (some (s + 12)), .map (some (s + 13)), .slice none 0 0] := by
  have h1 := hs3'.out
  have h2 := hs2.out
  have this : Blk w4 (s + 14) 88 #[.int .i64 me, .int .i64 3, .pointer (some ⟨d, 0, none⟩), .map (some s), .pointer (some ⟨s + 9, 0, none⟩), .map (some (s + 10)), .map (some (s + 11)), .map (some (s + 12)), .map (some (s + 13)), .slice none 0 0] := by
   rw [hw4]
   have := Blk.new ((((w3.alloc (.map #[] 0)).alloc (.map #[] 0)).alloc (.map #[] 0)).alloc (.map #[] 0)) 88 #[.int .i64 me, .int .i64 3, .pointer (some ⟨d, 0, none⟩), .map (some s), .pointer (some ⟨s + 9, 0, none⟩), .map (some (s + 10)), .map (some (s + 11)), .map (some (s + 12)), .map (some (s + 13)), .slice none 0 0]
   have h3 : ((((w3.alloc (.map #[] 0)).alloc (.map #[] 0)).alloc (.map #[] 0)).alloc (.map #[] 0)).heap.size = s + 14 := by simp; omega
   rw [h3] at this
   exact this
  exact this
 have hs4 : w4.heap.size = s + 15 := by have := hs3'.out; rw [hw4]; simp; omega
 have hds : d < s := by have := hm1.out.size; have := hs.out; omega
 have hlies : Lies w4 (colN w1 col k s) k (bN s d) := by
  intro p hp
  simp only [bN, rnB0, RpB.all, List.mem_cons, List.not_mem_nil, or_false] at hp
  rcases hp with rfl | rfl | rfl | rfl | rfl | rfl | rfl | rfl | rfl | rfl | rfl | rfl | rfl | rfl | rfl | rfl
  ·exact ⟨by dsimp only; omega, colN_at (i := 14) (by omega)⟩
  ·refine ⟨by dsimp only; omega, ?_⟩
   show colN w1 col k s d = _
   unfold colN
   rw [if_pos hds]; exact hcd.out
  ·exact ⟨by dsimp only; omega, colN_at (i := 0) (by omega)⟩
  ·exact ⟨by dsimp only; omega, colN_at (i := 10) (by omega)⟩
  ·exact ⟨by dsimp only; omega, colN_at (i := 11) (by omega)⟩
  ·exact ⟨by dsimp only; omega, colN_at (i := 12) (by omega)⟩
  ·exact ⟨by dsimp only; omega, colN_at (i := 13) (by omega)⟩
  ·exact ⟨by dsimp only; omega, colN_at (i := 9) (by omega)⟩
  ·exact ⟨by dsimp only; omega, colN_at (i := 1) (by omega)⟩
  ·exact ⟨by dsimp only; omega, colN_at (i := 2) (by omega)⟩
  ·exact ⟨by dsimp only; omega, colN_at (i := 3) (by omega)⟩
  ·exact ⟨by dsimp only; omega, colN_at (i := 8) (by omega)⟩
  ·exact ⟨by dsimp only; omega, colN_at (i := 5) (by omega)⟩
  ·exact ⟨by dsimp only; omega, colN_at (i := 4) (by omega)⟩
  ·exact ⟨by dsimp only; omega, colN_at (i := 7) (by omega)⟩
  ·exact ⟨by dsimp only; omega, colN_at (i := 6) (by omega)⟩
 have hr4 : RpM w4 (colN w1 col k s) k (bN s d) me 3 (xN 0 0) :=
  ⟨hlies, hq, hd1'.out.mod0 ((hm12.out.trans hm3).trans hm34), Arr.none_ _ _ _ _, (hsl2.out.mod hm3 (fun h => h)).mod hm34 (fun h => h), hld, hrf, hwt, htl, hrn3.mod hm34 (fun h => h) (fun h => h) (fun h => h) (fun h => h) (fun h => h) (fun h => h) (fun h => h) (fun h => h) (fun h => h), Arr.none_ _ _ _ _, Ow.nil _ _ _⟩
 have kR := zH (run0_ok w4 _ k (bN s d) me 3 (xN 0 0) hr4 rfl)
 have c4 : w4.cell? ⟨s + 14, 4, none⟩ = some (.pointer (some ⟨s + 9, 0, none⟩)) := hr4.q.cell_ rfl
 have hM4 := zH ((hm1.out.mono (fun j hj => show own col k j from hj.elim (fun e => by unfold own; rw [e, hcd.out]) (fun ⟨a, ha, _⟩ => by cases ha))).trans (((hm12.out.trans hm3).trans hm34).any _))
 have hE4 := zH (show Ext w col (colN w1 col k s) from fun j hj => by unfold colN; rw [if_pos (by have := hm1.out.size; have := hs.out; omega)])
 have hw4s : Hid (s + 14 < w4.heap.size) := zH (by omega)
 clear hm34 hld hrf hwt htl hq hlies hm3 hrn3 hs3
 replace hr4 := zH hr4
 replace hs4 := zH hs4
 have v1 : w1.heap.size = s := hs.out.symm
 have v2 : w2.heap.size = s + 1 := hs2.out
 have v3 : w3.heap.size = s + 10 := hs3'.out
 replace hw4 := zH hw4
 go_upto_region 7 with fail
 rw [← hw4.out]
 clear v1 v2 v3
 go_wp2_with fail
 go_loopw [53] (fun y wr => y = .int .i64 0 ∧ wr = w4) (fun _ _ => 0)
 case atStart => exact ⟨rfl, rfl⟩
 case round =>
  obtain ⟨rfl, rfl⟩ := hrel
  have lq4 := hw4s.out
  go_wp2_with fail
  refine kR.out.mono ?_
  rintro e w5 ⟨⟨v5, rfl⟩, hm5⟩
  dsimp only
  replace hm5 := zH hm5
  go_wp2_with fail
  go_ret2
  exact ⟨bN s d, xN 0 0, _, rfl, hr4.out.mod0 hm5.out, ⟨rfl, rfl, rfl, rfl, rfl, rfl, rfl, rfl, rfl, by show (0 : Nat) ≤ _; omega⟩, rfl, hE4.out, hM4.out.trans (hm5.out.any _)⟩
set_option maxRecDepth 512
theorem repinfo : (Tryz.prog.info? 48).map (fun i => (i.zero, i.size, i.bytes)) = some (some (.pointer none), 1, 8) := by kernel_rfl
theorem dskinfo : (Tryz.prog.info? 69).map (fun i => (i.zero, i.size, i.bytes)) = some (some (.pointer none), 1, 8) := by kernel_rfl
def ptrs (b : Nat → RpB) (j : Nat) : List Value := (List.range j).map fun i => .pointer (some ⟨(b i).q, 0, none⟩)
theorem ptrs_succ (b : Nat → RpB) (j : Nat) : ptrs b (j + 1) = ptrs b j ++ [.pointer (some ⟨(b j).q, 0, none⟩)] := by unfold ptrs; rw [List.range_succ, List.map_append]; rfl
theorem ptrs_congr {b b' : Nat → RpB} {j : Nat} (h : ∀ i, i < j → b i = b' i) : ptrs b j = ptrs b' j := by
 unfold ptrs
 refine List.map_congr_left fun i hi => ?_
 rw [h i (List.mem_range.1 hi)]
structure NetJ (w : World) (col : Col) (nb j : Nat) (RA DA : Option Addr) (rc dc : Nat) (dl : List Value) (b : Nat → RpB) (X : Nat → RpS) : Prop where
 net : Blk w nb 45 #[.slice RA j rc, .slice DA j dc, .slice none 0 0]
 cn : col nb = (3, 0)
 R : Ow w 48 1 RA j rc (ptrs b j)
 D : Ow w 69 1 DA j dc dl
 cR : ∀ k, fp RA k → col k = (3, 1)
 cD : ∀ k, fp DA k → col k = (3, 2)
 r : ∀ i, i < j → RpM w col i (b i) (i : Int) 3 (X i) ∧ Blank (X i) ∧ (X i).Wt = []
theorem NetJ.mod {w w' : World} {col : Col} {nb j : Nat} {RA DA : Option Addr} {rc dc : Nat} {dl : List Value} {b : Nat → RpB} {X : Nat → RpS} (h : NetJ w col nb j RA DA rc dc dl b X) {F : Nat → Prop} (hm : Mod F w w')
  (h0 : ¬ F nb) (hR : ∀ k, fp RA k → ¬ F k) (hD : ∀ k, fp DA k → ¬ F k) (hr : ∀ i, i < j → Off w col i [] F) : NetJ w' col nb j RA DA rc dc dl b X :=
 ⟨h.net.mod hm h0, h.cn, h.R.mod hm hR, h.D.mod hm hD, h.cR, h.cD, fun i hi => ⟨(h.r i hi).1.far hm (hr i hi), (h.r i hi).2⟩⟩
theorem NetJ.ext {w : World} {col col' : Col} {nb j : Nat} {RA DA : Option Addr} {rc dc : Nat} {dl : List Value} {b : Nat → RpB} {X : Nat → RpS} (h : NetJ w col nb j RA DA rc dc dl b X) (he : Ext w col col') : NetJ w col' nb j RA DA rc dc dl b X :=
 ⟨h.net, (he _ h.net.lt).trans h.cn, h.R, h.D, fun k hk => (he _ (h.R.lt k hk)).trans (h.cR k hk), fun k hk => (he _ (h.D.lt k hk)).trans (h.cD k hk), fun i hi => ⟨(h.r i hi).1.ext he, (h.r i hi).2⟩⟩
def BeginPost (w : World) (e : Ending) (w' : World) : Prop :=
 ∃ nb RA DA rc dc dl b X col, e = .returned (.pointer (some ⟨nb, 0, none⟩)) ∧ NetJ w' col nb 3 RA DA rc dc dl b X ∧ (∀ i, i < w.heap.size → col i = (98, 0)) ∧ Mod none_ w w'
set_option maxRecDepth 100000
theorem begin_ok (w : World) : Calls Tryz.prog 11 #[.int .i64 3, .int .i64 65536] w (BeginPost w) := by
 have hnb0 := zH (Blk.new w 45 #[.slice none 0 0, .slice none 0 0, .slice none 0 0])
 have hm0 := zH ((Mod.refl none_ w).alloc (.cells #[.slice none 0 0, .slice none 0 0, .slice none 0 0] 45))
 go_enter Tryz.func11, Tryz.ntmps11
 go_wp2_with fail
 go_loopw [6] (fun y wr => ∃ (j : Nat) (RA DA : Option Addr) (rc dc : Nat) (dl : List Value) (b : Nat → RpB) (X : Nat → RpS) (col : Col), y = .int .i64 (j : Int) ∧ j ≤ 3 ∧ NetJ wr col w.heap.size j RA DA rc dc dl b X ∧ (∀ i, i < w.heap.size → col i = (98, 0)) ∧ Mod none_ w wr) (fun y _ => 3 - (intOf y).toNat)
 case atStart => exact ⟨0, none, none, 0, 0, [], fun _ => bN 0 0, fun _ => xN 0 0, fun i => if i < w.heap.size then (98, 0) else (3, 0), rfl, by omega, ⟨hnb0.out, if_neg (by omega), Ow.nil _ _ _, Ow.nil _ _ _, (fun k ⟨a, ha, _⟩ => by cases ha), (fun k ⟨a, ha, _⟩ => by cases ha), (fun i hi => absurd hi (by omega))⟩, (fun i hi => if_pos hi), hm0.out⟩
 case round =>
  obtain ⟨j, RA, DA, rc, dc, dl, b, X, col, rfl, hj, hN, h98, hM⟩ := hrel
  by_cases hlt : j < 3
  ·have hlt' : ((j : Nat) : Int) < 3 := by omega
   replace hN := zH hN
   replace hM := zH hM
   replace h98 := zH h98
   go_upto_region 5 with fail
   go_wp2_with fail
   refine (disk_new 65536 wr).mono ?_
   rintro e w1 ⟨rfl, hd1, hm1⟩
   dsimp only
   have hd1' : Dk w1 wr.heap.size none 0 ⟨[], 0, RpW, false⟩ := hd1
   obtain ⟨col1, hc1⟩ : ∃ col1, col1 = tint wr col (j, 1) := ⟨_, rfl⟩
   have he1 : Ext wr col col1 := by rw [hc1]; exact tint_ext wr col (j, 1)
   have hcd : col1 wr.heap.size = (j, 1) := by rw [hc1]; exact tint_new (Nat.le_refl _)
   have hN1 := zH ((hN.out.ext he1).mod hm1 (fun h => h) (fun _ _ h => h) (fun _ _ h => h) (fun _ _ => Off.none_ _ _ _ _))
   have h98_1 := zH (show ∀ i, i < w.heap.size → col1 i = (98, 0) from fun i hi => (he1 i (Nat.lt_of_lt_of_le hi hM.out.size)).trans (h98.out i hi))
   have hM1 := zH (hM.out.trans hm1)
   have kN := zH (rnew_ok w1 col1 j wr.heap.size (j : Int) hd1' hcd (by omega) (by omega))
   clear hd1 hd1' hm1 hc1 he1 hcd
   go_wp2_with fail
   refine kN.out.mono ?_
   rintro e w2 ⟨b2, X2, col2, rfl, hr2, hb2, hw2, hx2, hm2⟩
   dsimp only
   have hN1' := hN1.out
   have hN2 := zH ((hN1'.ext hx2).mod hm2 (by unfold own; rw [hN1'.cn]; show ¬ (3 = j); omega) (fun q hq => by unfold own; rw [hN1'.cR q hq]; show ¬ (3 = j); omega) (fun q hq => by unfold own; rw [hN1'.cD q hq]; show ¬ (3 = j); omega)
    (fun i hi q hq hf c _ e => by
     rw [hx2 q hq] at e
     unfold own at hf
     rw [e] at hf
     have : i = j := hf
     omega))
   have h98_2 := zH (show ∀ i, i < w.heap.size → col2 i = (98, 0) from fun i hi => (hx2 i (Nat.lt_of_lt_of_le hi hM1.out.size)).trans (h98_1.out i hi))
   have hM2 := zH (hM1.out.then hm2 (fun i hi hf => by unfold own at hf; rw [h98_1.out i hi] at hf; have : 98 = j := hf; omega))
   clear hm2 hx2 hN1' kN
   replace hr2 := zH hr2
   replace hb2 := zH hb2
   replace hw2 := zH hw2
   obtain ⟨ir, hir, hr0, hr1_, hr2_⟩ := info_parts repinfo
   obtain ⟨ik, hik, hk0, hk1_, hk2_⟩ := info_parts dskinfo
   have hnet2 := hN2.out.net
   have ln2 := hnet2.lt
   have n0 : w2.cell? ⟨w.heap.size, 0, none⟩ = some (.slice RA j rc) := hnet2.cell_ rfl
   have hA2 := zH ((Mod.refl none_ w2).alloc (.cells #[.pointer (some ⟨b2.q, 0, none⟩)] 48))
   have hra := zH (show Rd (w2.alloc (.cells #[.pointer (some ⟨b2.q, 0, none⟩)] 48)) 1 (some ⟨w2.heap.size, 0, none⟩) 1 [.pointer (some ⟨b2.q, 0, none⟩)] from rdn w2 _ 1 1 w2.heap.size #[.pointer (some ⟨b2.q, 0, none⟩)] (0, 0) rfl rfl)
   clear hnet2
   have hoa := zH (Ow.mod0 hN2.out.R hA2.out)
   have hnR : Hid (¬ fp RA w.heap.size) := zH (fun h => by have := hN2.out.cR _ h; rw [hN2.out.cn] at this; simp at this)
   have hnD : Hid (¬ fp DA w.heap.size) := zH (fun h => by have := hN2.out.cD _ h; rw [hN2.out.cn] at this; simp at this)
   have hRD : Hid (∀ q, fp RA q → ¬ fp DA q) := zH (fun q h1 h2 => by have := hN2.out.cR _ h1; rw [hN2.out.cD _ h2] at this; simp at this)
   go_upto_region 10 with (at_builtin; refine wpList_append_ow rfl (.tmp 32) (.tmp 34) 41 rfl 48 ir _ 1 8 Tryz.underlying41 hir hr0 hr1_ hr2_ rfl (by omega) RA j rc (ptrs b j) rfl hoa.out (some ⟨w2.heap.size, 0, none⟩) 1 1 [.pointer (some ⟨b2.q, 0, none⟩)] rfl hra.out (by simp [Value.oneCell']) (by omega) (by omega) ?_; intro A3 c3 w3 ho3 hm3 hA3; have hnet3 := (hN2.out.net.mod hA2.out (fun h => h)).mod hm3 hnR.out; have ln3 := hnet3.lt; have n3 : w3.cell? ⟨w.heap.size, 0, none⟩ = some (.slice RA j rc) := hnet3.cell_ rfl; have f3 := hnet3.frozen 0)
   obtain ⟨w4, hw4⟩ : ∃ w4, w4 = w3.setCell ⟨w.heap.size, 0, none⟩ (.slice A3 (j + 1) c3) := ⟨_, rfl⟩
   rw [← hw4]
   have hnet4 := hnet3.set_ 0 (.slice A3 (j + 1) c3)
   simp only [List.setIfInBounds_toArray, List.set_cons_zero] at hnet4
   rw [← hw4] at hnet4
   have hm34 : Mod (· = w.heap.size) w3 w4 := by rw [hw4]; exact Mod.setCell (Mod.refl (· = w.heap.size) w3) (p := ⟨w.heap.size, 0, none⟩) (.inl rfl) _
   have hm24 : Mod (fun q => fp RA q ∨ q = w.heap.size) w2 w4 := ((hA2.out.any _).trans (hm3.mono fun q h => .inl h)).trans (hm34.mono fun q h => .inr h)
   have ho4 := Ow.mod ho3 hm34 (fun q hq hh => Ow.ne_blk ho3 hnet3 (by decide) (by have e2 : q = w.heap.size := hh; rwa [e2] at hq))
   have hD4 := hN2.out.D.mod hm24 (fun q hq hh => hh.elim (fun h => hRD.out q h hq) (fun e => hnD.out (by rwa [e] at hq)))
   have ln4 := hnet4.lt
   have n4 : w4.cell? ⟨w.heap.size, 1, none⟩ = some (.slice DA j dc) := hnet4.cell_ rfl
   have hA4 := zH ((Mod.refl none_ w4).alloc (.cells #[.pointer (some ⟨wr.heap.size, 0, none⟩)] 69))
   have hoa4 := zH (Ow.mod0 hD4 hA4.out)
   have hra4 := zH (show Rd (w4.alloc (.cells #[.pointer (some ⟨wr.heap.size, 0, none⟩)] 69)) 1 (some ⟨w4.heap.size, 0, none⟩) 1 [.pointer (some ⟨wr.heap.size, 0, none⟩)] from rdn w4 _ 1 1 w4.heap.size #[.pointer (some ⟨wr.heap.size, 0, none⟩)] (0, 0) rfl rfl)
   have hA3' := zH hA3
   have s23 : w2.heap.size ≤ w3.heap.size := by have := hm3.size; simp at this; omega
   have s34 : w3.heap.size ≤ w4.heap.size := hm34.size
   clear hA3 ho3 hm3 hnet3 ln3 n3 f3 hoa hra hm34 n0 ln2
   replace hw4 := zH hw4
   replace hnet4 := zH hnet4
   replace hm24 := zH hm24
   replace ho4 := zH ho4
   replace hD4 := zH hD4
   go_wp2_with (at_builtin; refine wpList_append_ow rfl (.tmp 42) (.tmp 44) 42 rfl 69 ik _ 1 8 Tryz.underlying42 hik hk0 hk1_ hk2_ rfl (by omega) DA j dc dl rfl hoa4.out (some ⟨w4.heap.size, 0, none⟩) 1 1 [.pointer (some ⟨wr.heap.size, 0, none⟩)] rfl hra4.out (by simp [Value.oneCell']) (by omega) (by omega) ?_; intro A5 c5 w5 ho5 hm5 hA5; have hnet5 := (hnet4.out.mod hA4.out (fun h => h)).mod hm5 hnD.out; have ln5 := hnet5.lt; have n5 : w5.cell? ⟨w.heap.size, 1, none⟩ = some (.slice DA j dc) := hnet5.cell_ rfl; have f5 := hnet5.frozen 1)
   obtain ⟨w6, hw6⟩ : ∃ w6, w6 = w5.setCell ⟨w.heap.size, 1, none⟩ (.slice A5 (j + 1) c5) := ⟨_, rfl⟩
   rw [← hw6]
   have hnet6 := hnet5.set_ 1 (.slice A5 (j + 1) c5)
   simp only [List.setIfInBounds_toArray, List.set_cons_zero, List.set_cons_succ] at hnet6
   rw [← hw6] at hnet6
   have hm56 : Mod (· = w.heap.size) w5 w6 := by rw [hw6]; exact Mod.setCell (Mod.refl (· = w.heap.size) w5) (p := ⟨w.heap.size, 1, none⟩) (.inl rfl) _
   have hm46 : Mod (fun q => fp DA q ∨ q = w.heap.size) w4 w6 := ((hA4.out.any _).trans (hm5.mono fun q h => .inl h)).trans (hm56.mono fun q h => .inr h)
   have hDlt := hN2.out.D.lt
   have hRlt := hN2.out.R.lt
   have hA3R : ∀ q, fp A3 q → fp RA q ∨ (w2.heap.size ≤ q ∧ q < w4.heap.size) := by
    intro q hq
    rcases hA3'.out with rfl | rfl
    ·exact .inl hq
    ·have := ho4.out.lt q hq
     obtain ⟨a, ha, rfl⟩ := hq
     cases ha
     exact .inr ⟨by simp, this⟩
   have ho46 := Ow.mod ho4.out hm46 (fun q hq hh => by
    rcases hh with hh | hh
    ·rcases hA3R q hq with h1 | h1
     ·exact hRD.out q h1 hh
     ·have := hDlt q hh; omega
    ·rw [hh] at hq; exact Ow.ne_blk ho4.out hnet4.out (by decide) hq)
   have ho56 := Ow.mod ho5 hm56 (fun q hq hh => Ow.ne_blk ho5 hnet5 (by decide) (by have e2 : q = w.heap.size := hh; rwa [e2] at hq))
   obtain ⟨col6, hc6⟩ : ∃ col6 : Col, col6 = fun q => if q < w2.heap.size then col2 q else if q < w4.heap.size then (3, 1) else (3, 2) := ⟨_, rfl⟩
   have he6 : Ext w2 col2 col6 := fun q hq => by rw [hc6]; exact if_pos hq
   have hm26 : Mod (fun q => fp RA q ∨ q = w.heap.size ∨ fp DA q) w2 w6 := (hm24.out.mono (fun q h => h.elim .inl (fun e => .inr (.inl e)))).trans (hm46.mono (fun q h => h.elim (fun e => .inr (.inr e)) (fun e => .inr (.inl e))))
   have hoff : ∀ i, i ≤ j → Off w2 col6 i [] (fun q => fp RA q ∨ q = w.heap.size ∨ fp DA q) := by
    intro i hi q hq hf c _ e
    rw [he6 q hq] at e
    rcases hf with hf | rfl | hf
    ·rw [hN2.out.cR q hf] at e; simp at e; omega
    ·rw [hN2.out.cn] at e; simp at e; omega
    ·rw [hN2.out.cD q hf] at e; simp at e; omega
   have hfin := zH (show NetJ w6 col6 w.heap.size (j + 1) A3 A5 c3 c5 (dl ++ [.pointer (some ⟨wr.heap.size, 0, none⟩)]) (fun i => if i = j then b2 else b i) (fun i => if i = j then X2 else X i) from by
    refine ⟨hnet6, (he6 _ hN2.out.net.lt).trans hN2.out.cn, ?_, ho56, ?_, ?_, ?_⟩
    ·rw [ptrs_succ, if_pos rfl, ptrs_congr (b := fun i => if i = j then b2 else b i) (b' := b) (fun i hi => if_neg (by omega))]
     exact ho46
    ·intro q hq
     rcases hA3R q hq with h1 | ⟨h1, h2⟩
     ·exact (he6 q (hRlt q h1)).trans (hN2.out.cR q h1)
     ·rw [hc6]; dsimp only; rw [if_neg (by omega), if_pos h2]
    ·intro q hq
     rcases hA5 with rfl | rfl
     ·exact (he6 q (hDlt q hq)).trans (hN2.out.cD q hq)
     ·obtain ⟨a, ha, rfl⟩ := hq
      cases ha
      rw [hc6]; dsimp only
      rw [if_neg (by simp; omega), if_neg (by simp)]
    ·intro i hi
     by_cases hij : i = j
     ·subst hij
      rw [if_pos rfl, if_pos rfl]
      exact ⟨(hr2.out.ext he6).far hm26 (hoff _ (Nat.le_refl _)), hb2.out, hw2.out⟩
     ·rw [if_neg hij, if_neg hij]
      have := hN2.out.r i (by omega)
      exact ⟨(this.1.ext he6).far hm26 (hoff i (by omega)), this.2⟩)
   have h98_6 := zH (show ∀ i, i < w.heap.size → col6 i = (98, 0) from fun i hi => (he6 i (Nat.lt_of_lt_of_le hi hM2.out.size)).trans (h98_2.out i hi))
   have hM6 := zH (hM2.out.then hm26 (fun i hi hf => by
    rcases hf with hf | rfl | hf
    ·have h1 := hN2.out.cR i hf; rw [h98_2.out i hi] at h1; simp at h1
    ·omega
    ·have h1 := hN2.out.cD i hf; rw [h98_2.out i hi] at h1; simp at h1))
   clear hc6 he6 hm26 hoff hA3R ho46 ho56 hnet6 hnet5 hm56 hm46 ho5 hm5 hA5 hDlt hRlt
   replace hw6 := zH hw6
   go_wp2_with fail
   go_roundw
   case rel => exact ⟨j + 1, A3, A5, c3, c5, _, _, _, col6, by go_num, by omega, hfin.out, h98_6.out, hM6.out⟩
   case measure => simp [intOf]; omega
  ·obtain rfl : j = 3 := by omega
   replace hN := zH hN
   replace hM := zH hM
   replace h98 := zH h98
   go_wp2_with fail
   go_ret
   exact ⟨w.heap.size, RA, DA, rc, dc, dl, b, X, col, rfl, hN.out, h98.out, hM.out⟩
end Go.Proofs.YtfkfiokkjjnhiaaGreat
