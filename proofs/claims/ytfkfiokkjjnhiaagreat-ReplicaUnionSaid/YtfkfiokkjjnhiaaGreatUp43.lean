import Derived.Test.YtfkfiokkjjnhiaaGreatUp42
import Derived.Test.YtfkfiokkjjnhiaaGreatUp7
import Derived.Test.YtfkfiokkjjnhiaaGreatUp1
import Derived.ProofKit
import Derived.OpenShut
import Derived.ChangeOld
import Derived.SizedLaws
import Derived.Deep.Slices
import Derived.Deep.Fields
import Derived.Test.YtfkfiokkjjnhiaaGreatUp3
import Derived.Test.YtfkfiokkjjnhiaaGreatUp8
import Derived.Lib.SmallJoins
set_option linter.unusedVariables false
set_option linter.unusedSimpArgs false
set_option maxHeartbeats 16000000
namespace Go.Proofs.YtfkfiokkjjnhiaaGreat
open Go.RowKit
theorem rdp_take {w : World} {A : Option Addr} {n : Nat} {a : List Is} (h : RdP w A n a) {k : Nat} (hk : k ≤ n) : RdP w A k (a.take k) := by
 have := Rd.take_ h hk
 rw [iss_take] at this
 exact this
theorem up_step {l : List Is} (h : Up l) {j : Nat} {p x : Is} (h1 : l[j]? = some p) (h2 : l[j + 1]? = some x) : isLt p x = true := by
 obtain ⟨i1, e1⟩ := List.getElem?_eq_some_iff.1 h1
 obtain ⟨i2, e2⟩ := List.getElem?_eq_some_iff.1 h2
 have := List.pairwise_iff_getElem.1 h j (j + 1) i1 i2 (by omega)
 rwa [e1, e2] at this
set_option maxRecDepth 100000
theorem union_walk (w : World) (A B : Option Addr) (n m c d : Nat) (a b : List Is) (ha : RdP w A n a) (hb : RdP w B m b) (hnc : n ≤ c) (hmd : m ≤ d) (hbig : n ≤ 140737488351232) (hbig2 : m ≤ 140737488351232) :
  Calls Tryz.prog 3 #[.slice A n c, .slice B m d] w fun e w' => e = .returned (.bool true) ∧ Mod none_ w w' := by
 have kL := zH (lives16_ok w)
 obtain ⟨k1, hk1, hk1n, hk60⟩ : ∃ k1 : Nat, min (n : Int) 60 = (k1 : Int) ∧ k1 ≤ n ∧ k1 ≤ 60 := ⟨min n 60, by omega, by omega, by omega⟩
 obtain ⟨k2, hk2, hk2m, hk602⟩ : ∃ k2 : Nat, min (m : Int) 60 = (k2 : Int) ∧ k2 ≤ m ∧ k2 ≤ 60 := ⟨min m 60, by omega, by omega, by omega⟩
 have hla := ha.len
 have hlb := hb.len
 have ha' := rdp_take ha hk1n
 have hb' := rdp_take hb hk2m
 have hl1 : (a.take k1).length = k1 := by rw [List.length_take]; omega
 have hl2 : (b.take k2).length = k2 := by rw [List.length_take]; omega
 obtain ⟨xs, hxs⟩ : ∃ xs, xs = a.take k1 := ⟨_, rfl⟩
 obtain ⟨ys, hys⟩ : ∃ ys, ys = b.take k2 := ⟨_, rfl⟩
 rw [← hxs] at ha' hl1
 rw [← hys] at hb' hl2
 clear hla hlb ha hb hxs hys
 replace ha' := zH ha'
 replace hb' := zH hb'
 replace hl1 := zH hl1
 replace hl2 := zH hl2
 go_enter Tryz.func3, Tryz.ntmps3
 go_wp2_with fail
 refine kL.out.mono ?_
 rintro e w1 ⟨rfl, hm1⟩
 dsimp only
 replace hm1 := zH hm1
 clear kL
 go_upto_region 3 with fail
 go_quiet (fail)
 obtain ⟨w1', hw1'⟩ : ∃ w1', w1' = w1.drewN nq := ⟨_, rfl⟩
 have hm1' := zH (show Mod none_ w w1' by rw [hw1']; exact hm1.out.drewN nq)
 rw [← hw1']
 have kU := zH (union_ok w1' A B k1 k2 c d xs ys (ha'.out.mod0 hm1'.out) (hb'.out.mod0 hm1'.out) (by omega) (by omega))
 clear hw1' hm1
 go_wp2_with fail
 refine kU.out.mono ?_
 rintro e w2 ⟨A5, n5, c5, us, rfl, hup, hmem, hlen, hou, hfr, hm2⟩
 dsimp only
 have hul := hou.len
 have hn5 : n5 ≤ 120 := by have h1 := hl1.out; have h2 := hl2.out; omega
 have hM2 := zH (hm1'.out.trans hm2)
 have hru := zH (show RdP w2 A5 n5 us from Ow.rd hou)
 clear kU hm1' hm2 hou hfr hlen
 replace hup := zH hup
 replace hmem := zH hmem
 replace hul := zH hul
 go_wp2_with fail
 have kA := zH (fun W a b => r14aheadU_ok W a b)
 go_loopg [6] n5 (fun k y wr => ∃ j : Nat, y = .int .i64 j ∧ j + k = n5 ∧ Mod none_ w2 wr)
 case atStart => exact ⟨0, rfl, by omega, Mod.refl _ _⟩
 case round =>
  obtain ⟨j, rfl, hj, hmr⟩ := hrel
  by_cases hlt : j < n5
  ·obtain ⟨b1, o1, x, rfl, hxm, hx0, y1, y2⟩ := rdp_get (hru.out.mod0 hmr) hlt
   have rd1 := hru.out.mod0 hmr
   obtain ⟨xr, xn⟩ := x
   dsimp only at y1 y2
   have hmx := (hmem.out ⟨xr, xn⟩).1 hxm
   have hne : Nonempty (Cls (Mod none_ wr)) := ⟨⟨_, Mod.refl _ _⟩⟩
   have g0 : ∀ s : Cls (Mod none_ wr), s.W.cell? ⟨b1, o1 + j*2, none⟩ = some (.int .i64 xr) := fun s => s.ok.cell_some y1 (fun h => h)
   have g1 : ∀ s : Cls (Mod none_ wr), s.W.cell? ⟨b1, o1 + j*2 + 1, none⟩ = some (.int .i64 xn) := fun s => s.ok.cell_some y2 (fun h => h)
   have kx := zH (fun s : Cls (Mod none_ wr) => (has_ok s.W A k1 c xs ⟨xr, xn⟩ (ha'.out.mod0 (hM2.out.trans (hmr.trans s.ok))) (by omega)).mono (fun e w' (h : _ ∧ _) => (⟨h.1, s.ok.trans h.2⟩ : _ ∧ Mod none_ wr w')))
   have ky := zH (fun s : Cls (Mod none_ wr) => (has_ok s.W B k2 d ys ⟨xr, xn⟩ (hb'.out.mod0 (hM2.out.trans (hmr.trans s.ok))) (by omega)).mono (fun e w' (h : _ ∧ _) => (⟨h.1, s.ok.trans h.2⟩ : _ ∧ Mod none_ wr w')))
   have hu1 : (0 : Int) ≤ (j : Int) := by omega
   have hu2 : (j : Int) < (n5 : Int) := by omega
   clear y1 y2
   replace hmr := zH hmr
   by_cases hj0 : j = 0
   ·subst hj0
    simp only [Nat.zero_mul, Nat.add_zero] at g0 g1
    by_cases hxx : (⟨xr, xn⟩ : Is) ∈ xs
    ·rw [decide_eq_true hxx] at kx
     clear hmx
     replace hxx := zH hxx
     replace hx0 := zH hx0
     replace hxm := zH hxm
     replace rd1 := zH rd1
     go_wp2_with fail
     refine wp_region_cls (Mod none_ wr) (by kernel_rfl) (by kernel_rfl) (Mod.refl none_ _).drew ?_
     try simp only [List.append_eq, List.cons_append, List.nil_append]
     repeat (go_big_quiet_step (first | (go_at_call 9; first | with_reducible exact cls_of (kx.out _) | with_reducible exact cls_of (ky.out _))))
     refine wpQuiet_nil ?_
     rintro _ ⟨⟨W, hW⟩, rfl⟩
     replace hW := zH (hmr.out.trans hW)
     go_wp2_with fail
     go_roundg (gk - 1)
     case measure => omega
     case rel => exact ⟨0 + 1, by go_num, by omega, hW.out⟩
    ·have hyy := hmx.resolve_left hxx
     rw [decide_eq_false hxx] at kx
     rw [decide_eq_true hyy] at ky
     clear hmx
     replace hxx := zH hxx
     replace hyy := zH hyy
     replace hx0 := zH hx0
     replace hxm := zH hxm
     replace rd1 := zH rd1
     go_wp2_with fail
     refine wp_region_cls (Mod none_ wr) (by kernel_rfl) (by kernel_rfl) (Mod.refl none_ _).drew ?_
     try simp only [List.append_eq, List.cons_append, List.nil_append]
     repeat (go_big_quiet_step (first | (go_at_call 9; first | with_reducible exact cls_of (kx.out _) | with_reducible exact cls_of (ky.out _))))
     refine wpQuiet_nil ?_
     rintro _ ⟨⟨W, hW⟩, rfl⟩
     replace hW := zH (hmr.out.trans hW)
     go_wp2_with fail
     go_roundg (gk - 1)
     case measure => omega
     case rel => exact ⟨0 + 1, by go_num, by omega, hW.out⟩
   ·obtain ⟨j1, rfl⟩ : ∃ j1, j = j1 + 1 := ⟨j - 1, by omega⟩
    obtain ⟨b', o', p, hbo, hmp, hdp, z1, z2⟩ := rdp_get rd1 (j := j1) (by omega)
    cases hbo
    obtain ⟨pr, pn⟩ := p
    dsimp only at z1 z2
    have g5 : ∀ s : Cls (Mod none_ wr), s.W.cell? ⟨b1, o1 + j1*2, none⟩ = some (.int .i64 pr) := fun s => s.ok.cell_some z1 (fun h => h)
    have g6 : ∀ s : Cls (Mod none_ wr), s.W.cell? ⟨b1, o1 + j1*2 + 1, none⟩ = some (.int .i64 pn) := fun s => s.ok.cell_some z2 (fun h => h)
    clear z1 z2
    have hlt2 := up_step hup.out hdp hx0
    have ka := zH (fun s : Cls (Mod none_ wr) => (kA.out s.W ⟨pr, pn⟩ ⟨xr, xn⟩).mono (fun e w' (h : _ ∧ _) => (⟨h.1, s.ok.trans h.2⟩ : _ ∧ Mod none_ wr w')))
    rw [hlt2] at ka
    have hw1 : wrap64 (((j1 + 1 : Nat) : Int) - 1) = (j1 : Int) := by unfold wrap64; omega
    have hw2 : IntKind.i64.wrap (((j1 + 1 : Nat) : Int) - 1) = (j1 : Int) := by rw [IntKind.wrap_i64]; omega
    have hw3 : ((j1 : Int) + 1 - 1) = (j1 : Int) := by omega
    have hu3 : (0 : Int) ≤ (j1 : Int) := by omega
    have hu4 : (j1 : Int) < (n5 : Int) := by omega
    replace hdp := zH hdp
    replace hmp := zH hmp
    replace hlt2 := zH hlt2
    by_cases hxx : (⟨xr, xn⟩ : Is) ∈ xs
    ·rw [decide_eq_true hxx] at kx
     clear hmx
     replace hxx := zH hxx
     replace hx0 := zH hx0
     replace hxm := zH hxm
     replace rd1 := zH rd1
     go_wp2_with fail
     refine wp_region_cls (Mod none_ wr) (by kernel_rfl) (by kernel_rfl) (Mod.refl none_ _).drew ?_
     try simp only [List.append_eq, List.cons_append, List.nil_append]
     repeat (go_big_quiet_step (first | (go_at_call 9; first | with_reducible exact cls_of (kx.out _) | with_reducible exact cls_of (ky.out _)) | (go_at_call 8; exact cls_of (ka.out _))))
     refine wpQuiet_nil ?_
     rintro _ ⟨⟨W, hW⟩, rfl⟩
     replace hW := zH (hmr.out.trans hW)
     go_wp2_with fail
     go_roundg (gk - 1)
     case measure => omega
     case rel => exact ⟨j1 + 1 + 1, by go_num, by omega, hW.out⟩
    ·have hyy := hmx.resolve_left hxx
     rw [decide_eq_false hxx] at kx
     rw [decide_eq_true hyy] at ky
     clear hmx
     replace hxx := zH hxx
     replace hyy := zH hyy
     replace hx0 := zH hx0
     replace hxm := zH hxm
     replace rd1 := zH rd1
     go_wp2_with fail
     refine wp_region_cls (Mod none_ wr) (by kernel_rfl) (by kernel_rfl) (Mod.refl none_ _).drew ?_
     try simp only [List.append_eq, List.cons_append, List.nil_append]
     repeat (go_big_quiet_step (first | (go_at_call 9; first | with_reducible exact cls_of (kx.out _) | with_reducible exact cls_of (ky.out _)) | (go_at_call 8; exact cls_of (ka.out _))))
     refine wpQuiet_nil ?_
     rintro _ ⟨⟨W, hW⟩, rfl⟩
     replace hW := zH (hmr.out.trans hW)
     go_wp2_with fail
     go_roundg (gk - 1)
     case measure => omega
     case rel => exact ⟨j1 + 1 + 1, by go_num, by omega, hW.out⟩
  ·obtain rfl : n5 = j := by omega
   have hM3 := zH (hM2.out.trans hmr)
   obtain ⟨w3, hw3⟩ : ∃ w3, w3 = wr := ⟨_, rfl⟩
   have hru3 := zH (hru.out.mod0 hmr)
   rw [← hw3] at hM3 hru3
   clear hmr hlt
   replace hw3 := zH hw3
   go_wp2_with fail
   rw [← hw3.out]
   go_loopg [7] k1 (fun k y wr => ∃ j' : Nat, y = .int .i64 j' ∧ j' + k = k1 ∧ Mod none_ w3 wr)
   case atStart => exact ⟨0, rfl, by omega, Mod.refl _ _⟩
   case round =>
    obtain ⟨j, rfl, hj, hmr⟩ := hrel
    by_cases hlt : j < k1
    ·obtain ⟨b2, o2, x, rfl, hxm, -, y1, y2⟩ := rdp_get (ha'.out.mod0 (hM3.out.trans hmr)) hlt
     obtain ⟨xr, xn⟩ := x
     dsimp only at y1 y2
     have hxu := (hmem.out ⟨xr, xn⟩).2 (Or.inl hxm)
     have kx := zH (has_ok wr A5 n5 c5 us ⟨xr, xn⟩ (hru3.out.mod0 hmr) (by omega))
     rw [decide_eq_true hxu] at kx
     have hu1 : (0 : Int) ≤ (j : Int) := by omega
     have hu2 : (j : Int) < (k1 : Int) := by omega
     replace hmr := zH hmr
     replace hxm := zH hxm
     replace hxu := zH hxu
     go_wp2_with fail
     refine kx.out.mono ?_
     rintro e w9 ⟨rfl, hm9⟩
     dsimp only
     replace hm9 := zH (hmr.out.trans hm9)
     go_wp2_with fail
     go_roundg (gk - 1)
     case measure => omega
     case rel => exact ⟨j + 1, by go_num, by omega, hm9.out⟩
    ·obtain rfl : k1 = j := by omega
     have hM4 := zH (hM3.out.trans hmr)
     obtain ⟨w4, hw4⟩ : ∃ w4, w4 = wr := ⟨_, rfl⟩
     have hru4 := zH (hru3.out.mod0 hmr)
     rw [← hw4] at hM4 hru4
     clear hmr hlt
     replace hw4 := zH hw4
     go_wp2_with fail
     rw [← hw4.out]
     go_loopg [8] k2 (fun k y wr => ∃ j' : Nat, y = .int .i64 j' ∧ j' + k = k2 ∧ Mod none_ w4 wr)
     case atStart => exact ⟨0, rfl, by omega, Mod.refl _ _⟩
     case round =>
      obtain ⟨j, rfl, hj, hmr⟩ := hrel
      by_cases hlt : j < k2
      ·obtain ⟨b2, o2, x, rfl, hxm, -, y1, y2⟩ := rdp_get (hb'.out.mod0 (hM4.out.trans hmr)) hlt
       obtain ⟨xr, xn⟩ := x
       dsimp only at y1 y2
       have hxu := (hmem.out ⟨xr, xn⟩).2 (Or.inr hxm)
       have kx := zH (has_ok wr A5 n5 c5 us ⟨xr, xn⟩ (hru4.out.mod0 hmr) (by omega))
       rw [decide_eq_true hxu] at kx
       have hu1 : (0 : Int) ≤ (j : Int) := by omega
       have hu2 : (j : Int) < (k2 : Int) := by omega
       replace hmr := zH hmr
       replace hxm := zH hxm
       replace hxu := zH hxu
       go_wp2_with fail
       refine kx.out.mono ?_
       rintro e w9 ⟨rfl, hm9⟩
       dsimp only
       replace hm9 := zH (hmr.out.trans hm9)
       go_wp2_with fail
       go_roundg (gk - 1)
       case measure => omega
       case rel => exact ⟨j + 1, by go_num, by omega, hm9.out⟩
      ·obtain rfl : k2 = j := by omega
       have hM5 := zH (hM4.out.trans hmr)
       have hru5 := zH (hru4.out.mod0 hmr)
       have kV := zH (union_ok wr B A k2 k1 d c ys xs (hb'.out.mod0 hM5.out) (ha'.out.mod0 hM5.out) (by omega) (by omega))
       clear hmr hlt
       go_wp2_with fail
       refine kV.out.mono ?_
       rintro e w6 ⟨A6, n6, c6, vs, rfl, hvup, hvmem, hvlen, hov, -, hm6⟩
       dsimp only
       obtain rfl : us = vs := up_eq hup.out hvup (fun x => by rw [hmem.out x, hvmem x, or_comm])
       have hvl := hov.len
       have kS := zH (sameIs_ok w6 A5 A6 n5 n6 c5 c6 us us (hru5.out.mod0 hm6) (show RdP w6 A6 n6 us from Ow.rd hov) (by omega) (by have := hul.out; omega))
       have hM6 := zH (hM5.out.trans hm6)
       have hru6 := zH (hru5.out.mod0 hm6)
       rw [decide_eq_true rfl] at kS
       clear kV hvup hvmem hvlen hov hm6
       replace hvl := zH hvl
       go_wp2_with fail
       refine kS.out.mono ?_
       rintro e w7 ⟨rfl, hm7⟩
       dsimp only
       have hM7 := zH (hM6.out.trans hm7)
       have hru7 := zH (hru6.out.mod0 hm7)
       have kV := zH (union_ok w7 A5 A5 n5 n5 c5 c5 us us hru7.out hru7.out (by omega) (by omega))
       clear kS hm7
       go_wp2_with fail
       refine kV.out.mono ?_
       rintro e w8 ⟨A8, n8, c8, zs, rfl, hvup, hvmem, hvlen, hov, -, hm8⟩
       dsimp only
       obtain rfl : us = zs := up_eq hup.out hvup (fun x => by rw [hvmem x, or_self])
       have hvl8 := hov.len
       have kS := zH (sameIs_ok w8 A5 A8 n5 n8 c5 c8 us us (hru7.out.mod0 hm8) (show RdP w8 A8 n8 us from Ow.rd hov) (by omega) (by have := hul.out; omega))
       have hM8 := zH (hM7.out.trans hm8)
       rw [decide_eq_true rfl] at kS
       clear kV hvup hvmem hvlen hov hm8
       replace hvl8 := zH hvl8
       go_wp2_with fail
       refine kS.out.mono ?_
       rintro e w9 ⟨rfl, hm9⟩
       dsimp only
       have hM9 := zH (hM8.out.trans hm9)
       clear hm9
       go_wp2_with fail
       go_ret
       exact ⟨rfl, hM9.out⟩
end Go.Proofs.YtfkfiokkjjnhiaaGreat
namespace Go.Proofs.YtfkfiokkjjnhiaaGreat
open Go.RowKit Go.ChangeShapes Go.WideShapes Go.Deep
theorem list_choice {α : Type} (p : Nat → α → Prop) : ∀ n, (∀ i, i < n → ∃ e, p i e) → ∃ es : List α, es.length = n ∧ ∀ i e, es[i]? = some e → p i e := by
 intro n
 induction n with
 | zero => intro _; exact ⟨[], rfl, fun i e h => by simp at h⟩
 | succ n ih =>
  intro h
  obtain ⟨es, hl, he⟩ := ih fun i hi => h i (by omega)
  obtain ⟨x, hx⟩ := h n (by omega)
  refine ⟨es ++ [x], by simp [hl], fun i e hi => ?_⟩
  by_cases hin : i < es.length
  ·rw [List.getElem?_append_left hin] at hi
   exact he i e hi
  ·rw [List.getElem?_append_right (by omega)] at hi
   have : i = es.length := by
    rcases Nat.lt_or_ge (i - es.length) 1 with h1 | h1
    ·omega
    ·rw [List.getElem?_eq_none (by simpa using h1)] at hi; cases hi
   subst this
   simp at hi
   subst hi
   rw [hl]; exact hx
theorem flat_range' {α : Type} (f : α → List Value) (css : Nat → List Value) : ∀ (es : List α) (s : Nat), (∀ i e, es[i]? = some e → css (s + i) = f e) → (List.range' s es.length).flatMap css = es.flatMap f := by
 intro es
 induction es with
 | nil => intro _ _; rfl
 | cons x es ih =>
  intro s h
  rw [List.length_cons, List.range'_succ, List.flatMap_cons, List.flatMap_cons, ih (s + 1) fun i e hi => by
   have := h (i + 1) e (by simpa using hi)
   rw [← this]; congr 1; omega]
  rw [← h 0 x (by simp)]
  rfl
theorem flat_range {α : Type} (f : α → List Value) (css : Nat → List Value) (es : List α) (h : ∀ i e, es[i]? = some e → css i = f e) : (List.range es.length).flatMap css = es.flatMap f := by
 rw [List.range_eq_range']
 exact flat_range' f css es 0 fun i e hi => by rw [Nat.zero_add]; exact h i e hi
section
variable {H : Type} {enc : TypeId × Value → H} {P : Program} {w : World} {held : Bool}
def Wd (P : Program) (t : TypeId) (d : DataW H) : Prop := ∀ n ∈ d.weights P t, n ≤ 140737488351232
theorem wd_arg {ts : List TypeId} {ds : List (DataW H)} (h : (DataW.weightsEach P ts ds).all (· ≤ reachBytes) = true) {j : Nat} {t : TypeId} {d : DataW H} (ht : ts[j]? = some t) (hd : ds[j]? = some d) : Wd P t d := by
 intro n hn
 have := List.all_eq_true.1 h _ (DataW.weights_mem_each ht hd n hn)
 have e : reachBytes = 140737488351232 := by decide
 simpa [e] using this
theorem wd_each {ts : List TypeId} {ds : List (DataW H)} (h : ∀ n ∈ DataW.weightsEach P ts ds, n ≤ 140737488351232) {j : Nat} {t : TypeId} {d : DataW H} (ht : ts[j]? = some t) (hd : ds[j]? = some d) : Wd P t d :=
 fun n hn => h n (DataW.weights_mem_each ht hd n hn)
theorem weights_mem_all {e : TypeId} : ∀ {l : List (DataW H)} {d : DataW H}, d ∈ l → ∀ n ∈ d.weights P e, n ∈ DataW.weightsAll P e l := by
 intro l
 induction l with
 | nil => intro d h; cases h
 | cons x l ih =>
  intro d h n hn
  simp only [DataW.weightsAll, List.mem_append]
  rcases List.mem_cons.1 h with rfl | h
  ·exact .inl hn
  ·exact .inr (ih h n hn)
theorem wd_slice {t e : TypeId} {elems spare : List (DataW H)} (hu : P.underlying t = some (.slice e)) (h : Wd P t (.slice elems spare)) :
  (elems.length + spare.length) * P.bytesOf e ≤ 140737488351232 ∧ (∀ d ∈ elems, Wd P e d) := by
 refine ⟨h _ (by simp [DataW.weights, hu]), fun d hd n hn => h n ?_⟩
 simp only [DataW.weights, hu, List.mem_cons, List.mem_append]
 exact .inr (.inl (weights_mem_all hd n hn))
theorem wd_struct {t : TypeId} {fs : Array Field} {parts : List (DataW H)} (hu : P.underlying t = some (.struct fs)) (h : Wd P t (.agg parts)) {j : Nat} {f : Field} {d : DataW H} (hf : fs[j]? = some f) (hd : parts[j]? = some d) : Wd P f.type d := by
 refine wd_each (ts := fs.toList.map (·.type)) (ds := parts) (fun n hn => h n ?_) (j := j) (by simp [hf]) hd
 simp only [DataW.weights, hu]
 exact hn
def Came (w : World) (size bytes : Nat) (A : Option Addr) (n c : Nat) (xs : List Value) : Prop :=
 Rd w size A n xs ∧ n ≤ c ∧ c ≤ 9223372036854775807 ∧ c * bytes ≤ 140737488351232 ∧ (0 < n → ∀ k, fp A k → k < w.heap.size)
theorem open_any {t e : TypeId} {fuel k : Nat} {cs : List Value} {x : DataW H × List MemPlace} (ht : P.underlying t = some (.slice e)) (hk : P.cellsOf e = k) (hk0 : 0 < k)
  (h : DataW.trod enc P w 0 (fun _ => true) held fuel t cs = some x) (hw : Wd P t x.1) :
  ∃ (A : Option Addr) (n c : Nat) (css : Nat → List Value) (D : Nat → DataW H), cs = [.slice A n c] ∧ Came w k (P.bytesOf e) A n c ((List.range n).flatMap css) ∧
   ∀ i, i < n → (css i).length = k ∧ Wd P e (D i) ∧ ∃ m pl, DataW.trod enc P w 0 (fun _ => true) held m e (css i) = some (D i, pl) := by
 rcases open_slice ht h with ⟨rfl, rfl⟩ | ⟨a, len, cap, m, n, D, Pl, rfl, hb, hl, hm, hmm, rfl, hi⟩
 ·exact ⟨none, 0, 0, fun _ => [], fun _ => .nil, rfl, ⟨Rd.none_, Nat.le_refl _, by omega, by omega, fun h => absurd h (by omega)⟩, fun i hi => absurd hi (by omega)⟩
 ·simp only [if_true] at hmm
  subst hmm
  have hw2 := wd_slice ht hw
  simp only [List.length_map, List.length_range] at hw2
  have hch : ∀ i, i < m → ∃ cs', w.cells? 0 (a.add (i * P.cellsOf e)) (P.cellsOf e) = some cs' ∧ DataW.trod enc P w 0 (fun _ => true) held n e cs' = some (D i, Pl i) := hi
  obtain ⟨cl, hcl, hcp⟩ := list_choice _ m hch
  have hget : ∀ i, i < m → ∃ cs', cl[i]? = some cs' := fun i hi => ⟨_, List.getElem?_eq_getElem (by omega)⟩
  have hcell : ∀ i, i < m → ∀ cs', cl[i]? = some cs' → cs'.length = k ∧ ∀ j u, cs'[j]? = some u → w.cell? (a.add (i * k + j)) = some u := by
   intro i hi cs' hc
   obtain ⟨h1, _⟩ := hcp i cs' hc
   obtain ⟨_, hlen, hat⟩ := World.cells?_some h1
   rw [hk] at hlen hat
   refine ⟨hlen, fun j u hu => ?_⟩
   have hj : j < k := by
    rcases Nat.lt_or_ge j cs'.length with h2 | h2
    ·omega
    ·rw [List.getElem?_eq_none h2] at hu; cases hu
   rw [← add_of_add, hat j hj, hu]
  refine ⟨some a, len, m, fun i => (cl[i]?).getD [], D, rfl, ⟨⟨?_, fun _ => ⟨a, rfl, ?_⟩⟩, hl, by simpa [maxLen] using hm, ?_, ?_⟩, ?_⟩
  ·have : ∀ q, q ≤ m → ((List.range q).flatMap fun i => (cl[i]?).getD []).length = q * k := by
    intro q
    induction q with
    | zero => intro _; simp
    | succ q ih =>
     intro hq
     obtain ⟨cs', hc⟩ := hget q (by omega)
     rw [List.range_succ, List.flatMap_append, List.length_append, ih (by omega), List.flatMap_singleton, hc, Option.getD_some, (hcell q (by omega) cs' hc).1, Nat.succ_mul]
   exact this len hl
  ·have hlq : ∀ q, q ≤ m → ((List.range q).flatMap fun i => (cl[i]?).getD []).length = q * k := by
    intro q
    induction q with
    | zero => intro _; simp
    | succ q ih =>
     intro hq
     obtain ⟨cs', hc⟩ := hget q (by omega)
     rw [List.range_succ, List.flatMap_append, List.length_append, ih (by omega), List.flatMap_singleton, hc, Option.getD_some, (hcell q (by omega) cs' hc).1, Nat.succ_mul]
   have : ∀ q, q ≤ m → ∀ j u, ((List.range q).flatMap fun i => (cl[i]?).getD [])[j]? = some u → w.cell? (a.add j) = some u := by
    intro q
    induction q with
    | zero => intro _ j u hu; simp at hu
    | succ q ih =>
     intro hq j u hu
     obtain ⟨cs', hc⟩ := hget q (by omega)
     have hlen := hlq q (by omega)
     rw [List.range_succ, List.flatMap_append, List.flatMap_singleton, hc, Option.getD_some] at hu
     rcases Nat.lt_or_ge j (q * k) with hj | hj
     ·rw [List.getElem?_append_left (by omega)] at hu
      exact ih (by omega) j u hu
     ·rw [List.getElem?_append_right (by omega), hlen] at hu
      have := (hcell q (by omega) cs' hc).2 _ u hu
      rwa [show q * k + (j - q * k) = j by omega] at this
   exact this len hl
  ·have := hw2.1
   rwa [show len + (m - len) = m by omega] at this
  ·rintro h0 b ⟨a', ha', rfl⟩
   cases ha'
   obtain ⟨cs', hc⟩ := hget 0 (by omega)
   obtain ⟨h1, h2⟩ := hcell 0 (by omega) cs' hc
   obtain ⟨u, hu⟩ : ∃ u, cs'[0]? = some u := ⟨_, List.getElem?_eq_getElem (by omega)⟩
   have := h2 0 u hu
   rw [Nat.zero_mul, Nat.zero_add, add_zero_] at this
   exact World.block_lt_of_cell? w _ this
  ·intro i hi
   obtain ⟨cs', hc⟩ := hget i (by omega)
   simp only [hc, Option.getD_some]
   refine ⟨(hcell i (by omega) cs' hc).1, ?_, n, Pl i, (hcp i cs' hc).2⟩
   apply hw2.2
   simp only [List.mem_map, List.mem_range]
   exact ⟨i, hi, rfl⟩
theorem open_fields {t : TypeId} {fs : Array Field} {fuel : Nat} {cs : List Value} {x : DataW H × List MemPlace} (he : P.underlying t = some (.struct fs)) (hone : oneCellFields P fs = true) (hC : P.cellsOf t = fs.size)
  (h : DataW.trod enc P w 0 (fun _ => true) held fuel t cs = some x) (hw : Wd P t x.1) :
  cs.length = fs.size ∧ ∀ (j : Nat) (f : Field), fs[j]? = some f → ∃ (v : Value) (m : Nat) (y : DataW H × List MemPlace), cs[j]? = some v ∧ DataW.trod enc P w 0 (fun _ => true) held m f.type [v] = some y ∧ Wd P f.type y.1 := by
 obtain ⟨ys, n', _, rfl, hlen, hyl, hf⟩ := DataW.trod_struct he h
 refine ⟨by rw [hlen, hC], fun j f hj => ?_⟩
 obtain ⟨ho, hk⟩ := hone_of hone j f hj
 have hjl : j < fs.size := (Array.getElem?_eq_some_iff.1 hj).1
 have hv : cs[j]? = some (cs[j]'(by omega)) := List.getElem?_eq_getElem (by omega)
 have h1 := hf j f hj
 rw [ho, hk] at h1
 have hone' : (cs.drop j).take 1 = [cs[j]'(by omega)] := by
  rw [List.drop_eq_getElem_cons (by omega)]
  rfl
 rw [hone'] at h1
 have hys : ys[j]? = some (ys[j]'(by omega)) := List.getElem?_eq_getElem (by omega)
 refine ⟨_, n', _, hv, h1.trans hys, wd_struct he hw hj ?_⟩
 rw [List.getElem?_map, hys]
 rfl
end
end Go.Proofs.YtfkfiokkjjnhiaaGreat
namespace Go.Proofs.YtfkfiokkjjnhiaaGreat
open Go.ChangeShapes Go.WideShapes Go.ChangeAt Go.RowKit Go.Deep
theorem in64_wfI {x : Int} (h : (Lit.int .i64 x).wf = true) : in64 x := by
 have : IntKind.i64.min ≤ x ∧ x ≤ IntKind.i64.max := by
  have h' : (decide (IntKind.i64.min ≤ x) && decide (x ≤ IntKind.i64.max)) = true := h
  simpa using h'
 have h1 : IntKind.i64.min = -9223372036854775808 := by decide
 have h2 : IntKind.i64.max = 9223372036854775807 := by decide
 rw [h1, h2] at this
 exact this
set_option maxRecDepth 100000
theorem open_insts {H : Type} {enc : TypeId × Value → H} {w : World} {held : Bool} {fuel : Nat} {cs : List Value} {x : DataW H × List MemPlace}
  (h : DataW.trod enc Tryz.prog w 0 (fun _ => true) held fuel 22 cs = some x) (hw : Wd Tryz.prog 22 x.1) :
  ∃ (A : Option Addr) (n c : Nat) (os : List Is), cs = [.slice A n c] ∧ RdP w A n os ∧ n ≤ c ∧ n ≤ 140737488351232 ∧ (∀ o ∈ os, (in64 o.r ∧ in64 o.n)) := by
 obtain ⟨A, n, c, css, D, rfl, hc, hi⟩ := open_any Tryz.underlying22 (by kernel_rfl : Tryz.prog.cellsOf 27 = 2) (by omega) h hw
 have hch : ∀ i, i < n → ∃ o : Is, css i = [.int .i64 o.r, .int .i64 o.n] ∧ (in64 o.r ∧ in64 o.n) := by
  intro i hin
  obtain ⟨hlen, hwd, m, pl, htr⟩ := hi i hin
  obtain ⟨h3, hf⟩ := open_fields Tryz.underlying27 (by kernel_rfl) (by kernel_rfl) htr hwd
  obtain ⟨v0, m0, y0, c0, t0, _⟩ := hf 0 _ rfl
  obtain ⟨v1, m1, y1, c1, t1, _⟩ := hf 1 _ rfl
  obtain ⟨x0, e0, _, w0⟩ := DataW.trod_int Tryz.underlying3 t0
  obtain ⟨x1, e1, _, w1⟩ := DataW.trod_int Tryz.underlying3 t1
  simp only [List.cons.injEq, and_true] at e0 e1
  subst e0 e1
  refine ⟨⟨x0, x1⟩, ?_, in64_wfI w0, in64_wfI w1⟩
  generalize css i = l at *
  match l, hlen, c0, c1 with
  | [a, b], _, c0, c1 =>
   simp at c0 c1
   subst c0 c1; rfl
 obtain ⟨os, hl, hz⟩ := list_choice _ n hch
 have e1 : (List.range n).flatMap css = iss os := by
  unfold iss
  rw [← hl, flat_range (fun o : Is => [.int .i64 o.r, .int .i64 o.n]) css os fun i e hie => (hz i e hie).1]
 rw [e1] at hc
 refine ⟨A, n, c, os, rfl, hc.1, hc.2.1, ?_, fun o ho => ?_⟩
 ·have h4 := hc.2.2.2.1
  have h2 := hc.2.1
  have hb : 1 ≤ Tryz.prog.bytesOf 27 := by
   have : Tryz.prog.bytesOf 27 = 16 := by kernel_rfl
   omega
  have := Nat.mul_le_mul_left c hb
  omega
 ·obtain ⟨i, hi1, hi2⟩ := List.getElem_of_mem ho
  exact (hz i o (by rw [List.getElem?_eq_getElem hi1, hi2])).2
end Go.Proofs.YtfkfiokkjjnhiaaGreat
