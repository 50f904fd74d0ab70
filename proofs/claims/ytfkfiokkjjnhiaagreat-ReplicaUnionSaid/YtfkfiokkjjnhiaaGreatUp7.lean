import Derived.Test.YtfkfiokkjjnhiaaGreatUp6
import Derived.Test.YtfkfiokkjjnhiaaGreatUp4
import Derived.Deep.RegionHeld3
import Derived.Deep.RegionLaw
import Derived.Test.YtfkfiokkjjnhiaaGreatUp1
import Derived.BigQuiet
import Derived.Deep.LoopGhost
set_option linter.unusedVariables false
set_option linter.unusedSimpArgs false
set_option maxHeartbeats 16000000
namespace Go.Proofs.YtfkfiokkjjnhiaaGreat
open Go.RowKit
set_option maxRecDepth 100000
theorem rightO_no (w : World) (o : Od) (L : SV) (hk : (Lit.int .i64 o.k).wf = true)
  (hlook : ∀ p, (shapesD p).atKey (.int .i64 o.k) (.held zSh) = .held (.agg #[.nilFunc, .nilFunc]))
  (hhas : ∀ p, Maps.has (shapesD p) (.int .i64 o.k) = false) :
  Calls Tryz.prog 32 #[.agg #[.int .i64 o.c, .int .i64 o.s, .int .i64 o.k, .string (txt o.acct), .string (txt o.peer), .int .i64 o.sum, .slice L.a L.n L.c, .int .i64 o.per, .int .i64 o.hold, .string (txt o.note)]] w fun e w' => e = .returned (.bool false) ∧ Mod none_ w w' := by
 have kS := zH (fun W => shapes_ok W)
 have hsf : ∀ (a : Addr) (f : Fn) (c p : Array Value) (W : World), (store a (.func f c p)).run Tryz.prog W = stored Tryz.prog W a (.func f c p) .plain := fun a f c p W => run_store Tryz.prog W a _ _ rfl
 have hsn : ∀ (a : Addr) (W : World), (store a .nilFunc).run Tryz.prog W = stored Tryz.prog W a .nilFunc .plain := fun a W => run_store Tryz.prog W a _ _ rfl
 have hlk := zH (fun (W : World) b' n p (h : W.ownsMap Tryz.prog 3 VR b' n (shapesD p)) => mapF_look_run 133 3 _ Tryz.underlying133 Tryz.underlying3 (zSh_run W) b' n _ h o.k hk _ (hlook p) _ (hhas p))
 have hB0 := (Blk.new w 40 #[.int .i64 o.c, .int .i64 o.s, .int .i64 o.k, .string (txt o.acct), .string (txt o.peer), .int .i64 o.sum, .slice L.a L.n L.c, .int .i64 o.per, .int .i64 o.hold, .string (txt o.note)]).drew
 have hm0 := ((Mod.refl none_ w).alloc (.cells #[.int .i64 o.c, .int .i64 o.s, .int .i64 o.k, .string (txt o.acct), .string (txt o.peer), .int .i64 o.sum, .slice L.a L.n L.c, .int .i64 o.per, .int .i64 o.hold, .string (txt o.note)] 40)).drew
 have hBa := ((Blk.new w 40 #[.int .i64 o.c, .int .i64 o.s, .int .i64 o.k, .string (txt o.acct), .string (txt o.peer), .int .i64 o.sum, .slice L.a L.n L.c, .int .i64 o.per, .int .i64 o.hold, .string (txt o.note)]).alloc (.cells #[.nilFunc, .nilFunc] 131)).drew
 have hma := (((Mod.refl none_ w).alloc (.cells #[.int .i64 o.c, .int .i64 o.s, .int .i64 o.k, .string (txt o.acct), .string (txt o.peer), .int .i64 o.sum, .slice L.a L.n L.c, .int .i64 o.per, .int .i64 o.hold, .string (txt o.note)] 40)).alloc (.cells #[.nilFunc, .nilFunc] 131)).drew
 have hSa : Blk ((w.alloc (.cells #[.int .i64 o.c, .int .i64 o.s, .int .i64 o.k, .string (txt o.acct), .string (txt o.peer), .int .i64 o.sum, .slice L.a L.n L.c, .int .i64 o.per, .int .i64 o.hold, .string (txt o.note)] 40)).alloc (.cells #[.nilFunc, .nilFunc] 131)).drew (w.heap.size + 1) 131 #[.nilFunc, .nilFunc] := heap_alloc2_new w _ _
 replace hBa := zH hBa
 replace hma := zH hma
 replace hSa := zH hSa
 replace hlook := zH hlook
 replace hhas := zH hhas
 replace hB0 := zH hB0
 replace hm0 := zH hm0
 replace hk := zH hk
 go_enter Tryz.func32, Tryz.ntmps32
 go_upto_region 1 with fail
 go_cut [3, 4] from 3 to 12 (fun s3 s4 W => ∃ sp p : Nat, s3 = .pointer (some ⟨sp, 0, none⟩) ∧ s4 = .bool false ∧ Mod none_ w W ∧ Blk W w.heap.size 40 #[.int .i64 o.c, .int .i64 o.s, .int .i64 o.k, .string (txt o.acct), .string (txt o.peer), .int .i64 o.sum, .slice L.a L.n L.c, .int .i64 o.per, .int .i64 o.hold, .string (txt o.note)] ∧ Blk W p 81 #[nameF] ∧ Blk W sp 131 #[.nilFunc, .nilFunc])
 case first =>
  go_region_held3 (fun W => W.cell? ⟨w.heap.size, 2, none⟩ = some (.int .i64 o.k)) (first | exact hB0.out.cell_ rfl | exact hBa.out.cell_ rfl | exact hB1.out.cell_ rfl | exact (hB1.out.alloc _).cell_ rfl | exact ((hB1.out.far (by simp) _).far (by simp) _).cell_ rfl | go_keep)
   (first | (go_at_call 62; refine (kS.out _).mono ?_; rintro e w1 ⟨b', p, n, rfl, hD, hN, hm1⟩; have e1 := hlk.out _ _ _ _ hD; have e2 := fun o => hlk.out _ _ _ _ (hD.alloc o); (first | (have hB1 := zH (hB0.out.mod hm1 (fun h => h)); have hmm := zH (hm0.out.trans hm1)) | (have hB1 := zH (hBa.out.mod hm1 (fun h => h)); have hmm := zH (hma.out.trans hm1); have hS1 := (hSa.out.mod hm1 (fun h => h)); have s0 : w1.cell? ⟨w.heap.size + 1, 0, none⟩ = some .nilFunc := hS1.cell_ rfl; have s1 : w1.cell? ⟨w.heap.size + 1, 1, none⟩ = some .nilFunc := hS1.cell_ rfl; have f0 := hS1.frozen 0; have f1 := hS1.frozen 1; replace hS1 := zH hS1)); replace hN := zH hN; clear hm1 hD))
  all_goals
   go_wp2
   go_meet
   first
    | exact ⟨_, p, rfl, rfl, hmm.out.alloc _, hB1.out.alloc _, hN.out.alloc _, Blk.new _ _ _⟩
    | exact ⟨_, p, rfl, rfl, (hmm.out.setCell (p := ⟨w.heap.size + 1, 0, none⟩) (.inr (Nat.le_succ _)) _).setCell (p := ⟨w.heap.size + 1, 1, none⟩) (.inr (Nat.le_succ _)) _, (hB1.out.far (by simp) _).far (by simp) _, (hN.out.far (hN.out.ne_ hS1.out (by decide)) _).far (hN.out.ne_ hS1.out (by decide)) _, (hS1.out.set_ 0 _).set_ 1 _⟩
 case rest =>
  obtain ⟨sp, p, rfl, rfl, hm, hB, hN, hS⟩ := hcut
  replace hm := zH hm
  replace hB := zH hB
  replace hN := zH hN
  replace hS := zH hS
  go_wp2_with fail
  go_ret
  exact ⟨rfl, hm.out⟩
def fits7 (o : Od) : Bool := nameB o.acct
def kindB (o : Od) : Bool :=
 if o.k = 1 then decide (o = bare1 o) && fits1 o
 else if o.k = 2 then decide (o = bare2 o) && fits2 o
 else if o.k = 3 then decide (o = bare3 o) && fits3 o
 else if o.k = 4 then decide (o = bare4 o) && fits4 o
 else if o.k = 5 then decide (o = bare5 o) && fits5 o
 else if o.k = 6 then decide (o = bare6 o) && fits6 o
 else if o.k = 7 then decide (o = bare7 o) && fits7 o
 else false
def rightO (o : Od) : Bool := idB o && kindB o
theorem rightO_1 (w : World) (o : Od) (L : SV) (hO : OdM w o L) (hL : L.n ≤ 140737488355328) (hk : o.k = 1) (hz : ∀ l ∈ o.legs, (txt l.n).size ≤ maxLen) :
  Calls Tryz.prog 32 #[.agg #[.int .i64 o.c, .int .i64 o.s, .int .i64 o.k, .string (txt o.acct), .string (txt o.peer), .int .i64 o.sum, .slice L.a L.n L.c, .int .i64 o.per, .int .i64 o.hold, .string (txt o.note)]] w fun e w' => e = .returned (.bool (idB o && (decide (o = bare1 o) && fits1 o))) ∧ Mod none_ w w' :=
 rightO_gen w o L hO hL (by rw [hk]; decide) 110 111 (fun p => #[.pointer (some ⟨p, 0, none⟩)]) (bare1 o) ⟨none, 0, 0⟩ (fits1 o) (fun W _ => ⟨Rd.none_, Nat.le_refl _⟩) (by decide) rfl rfl rfl
  (fun p => by rw [hk]; rfl) (fun p => by rw [hk]; rfl) (fun _ _ => rfl) (fun _ _ => rfl) (fun W => bare1_ok W o L) (fun W p h hp => fits1_ok W p hp o L (hO.mod0 h) hL hz)
theorem rightO_2 (w : World) (o : Od) (L : SV) (hO : OdM w o L) (hL : L.n ≤ 140737488355328) (hk : o.k = 2) (hz : ∀ l ∈ o.legs, (txt l.n).size ≤ maxLen) :
  Calls Tryz.prog 32 #[.agg #[.int .i64 o.c, .int .i64 o.s, .int .i64 o.k, .string (txt o.acct), .string (txt o.peer), .int .i64 o.sum, .slice L.a L.n L.c, .int .i64 o.per, .int .i64 o.hold, .string (txt o.note)]] w fun e w' => e = .returned (.bool (idB o && (decide (o = bare2 o) && fits2 o))) ∧ Mod none_ w w' :=
 rightO_gen w o L hO hL (by rw [hk]; decide) 112 113 (fun _ => #[]) (bare2 o) ⟨L.a, L.n, L.c⟩ (fits2 o) (fun W h => ⟨h.rd, h.cap⟩) (hL) rfl rfl rfl
  (fun p => by rw [hk]; rfl) (fun p => by rw [hk]; rfl) (fun _ _ => rfl) (fun _ _ => rfl) (fun W => bare2_ok W o L) (fun W p h _ => by have := fits2_ok W o L (hO.mod0 h) hL hz; simpa using this)
theorem rightO_3 (w : World) (o : Od) (L : SV) (hO : OdM w o L) (hL : L.n ≤ 140737488355328) (hk : o.k = 3) (hz : ∀ l ∈ o.legs, (txt l.n).size ≤ maxLen) :
  Calls Tryz.prog 32 #[.agg #[.int .i64 o.c, .int .i64 o.s, .int .i64 o.k, .string (txt o.acct), .string (txt o.peer), .int .i64 o.sum, .slice L.a L.n L.c, .int .i64 o.per, .int .i64 o.hold, .string (txt o.note)]] w fun e w' => e = .returned (.bool (idB o && (decide (o = bare3 o) && fits3 o))) ∧ Mod none_ w w' :=
 rightO_gen w o L hO hL (by rw [hk]; decide) 116 117 (fun p => #[.pointer (some ⟨p, 0, none⟩)]) (bare3 o) ⟨none, 0, 0⟩ (fits3 o) (fun W _ => ⟨Rd.none_, Nat.le_refl _⟩) (by decide) rfl rfl rfl
  (fun p => by rw [hk]; rfl) (fun p => by rw [hk]; rfl) (fun _ _ => rfl) (fun _ _ => rfl) (fun W => bare3_ok W o L) (fun W p h hp => fits3_ok W p hp o L (hO.mod0 h) hL hz)
theorem rightO_4 (w : World) (o : Od) (L : SV) (hO : OdM w o L) (hL : L.n ≤ 140737488355328) (hk : o.k = 4) (hz : ∀ l ∈ o.legs, (txt l.n).size ≤ maxLen) :
  Calls Tryz.prog 32 #[.agg #[.int .i64 o.c, .int .i64 o.s, .int .i64 o.k, .string (txt o.acct), .string (txt o.peer), .int .i64 o.sum, .slice L.a L.n L.c, .int .i64 o.per, .int .i64 o.hold, .string (txt o.note)]] w fun e w' => e = .returned (.bool (idB o && (decide (o = bare4 o) && fits4 o))) ∧ Mod none_ w w' :=
 rightO_gen w o L hO hL (by rw [hk]; decide) 118 119 (fun p => #[.pointer (some ⟨p, 0, none⟩)]) (bare4 o) ⟨none, 0, 0⟩ (fits4 o) (fun W _ => ⟨Rd.none_, Nat.le_refl _⟩) (by decide) rfl rfl rfl
  (fun p => by rw [hk]; rfl) (fun p => by rw [hk]; rfl) (fun _ _ => rfl) (fun _ _ => rfl) (fun W => bare4_ok W o L) (fun W p h hp => fits4_ok W p hp o L (hO.mod0 h) hL hz)
theorem rightO_5 (w : World) (o : Od) (L : SV) (hO : OdM w o L) (hL : L.n ≤ 140737488355328) (hk : o.k = 5) (hz : ∀ l ∈ o.legs, (txt l.n).size ≤ maxLen) :
  Calls Tryz.prog 32 #[.agg #[.int .i64 o.c, .int .i64 o.s, .int .i64 o.k, .string (txt o.acct), .string (txt o.peer), .int .i64 o.sum, .slice L.a L.n L.c, .int .i64 o.per, .int .i64 o.hold, .string (txt o.note)]] w fun e w' => e = .returned (.bool (idB o && (decide (o = bare5 o) && fits5 o))) ∧ Mod none_ w w' :=
 rightO_gen w o L hO hL (by rw [hk]; decide) 121 122 (fun p => #[.pointer (some ⟨p, 0, none⟩)]) (bare5 o) ⟨none, 0, 0⟩ (fits5 o) (fun W _ => ⟨Rd.none_, Nat.le_refl _⟩) (by decide) rfl rfl rfl
  (fun p => by rw [hk]; rfl) (fun p => by rw [hk]; rfl) (fun _ _ => rfl) (fun _ _ => rfl) (fun W => bare5_ok W o L) (fun W p h hp => fits5_ok W p hp o L (hO.mod0 h) hL hz)
theorem rightO_6 (w : World) (o : Od) (L : SV) (hO : OdM w o L) (hL : L.n ≤ 140737488355328) (hk : o.k = 6) (hz : ∀ l ∈ o.legs, (txt l.n).size ≤ maxLen) :
  Calls Tryz.prog 32 #[.agg #[.int .i64 o.c, .int .i64 o.s, .int .i64 o.k, .string (txt o.acct), .string (txt o.peer), .int .i64 o.sum, .slice L.a L.n L.c, .int .i64 o.per, .int .i64 o.hold, .string (txt o.note)]] w fun e w' => e = .returned (.bool (idB o && (decide (o = bare6 o) && fits6 o))) ∧ Mod none_ w w' :=
 rightO_gen w o L hO hL (by rw [hk]; decide) 123 124 (fun _ => #[]) (bare6 o) ⟨none, 0, 0⟩ (fits6 o) (fun W _ => ⟨Rd.none_, Nat.le_refl _⟩) (by decide) rfl rfl rfl
  (fun p => by rw [hk]; rfl) (fun p => by rw [hk]; rfl) (fun _ _ => rfl) (fun _ _ => rfl) (fun W => bare6_ok W o L) (fun W p h _ => by have := fits6_ok W o L (hO.mod0 h) hL hz; simpa using this)
theorem rightO_7 (w : World) (o : Od) (L : SV) (hO : OdM w o L) (hL : L.n ≤ 140737488355328) (hk : o.k = 7) (hz : ∀ l ∈ o.legs, (txt l.n).size ≤ maxLen) :
  Calls Tryz.prog 32 #[.agg #[.int .i64 o.c, .int .i64 o.s, .int .i64 o.k, .string (txt o.acct), .string (txt o.peer), .int .i64 o.sum, .slice L.a L.n L.c, .int .i64 o.per, .int .i64 o.hold, .string (txt o.note)]] w fun e w' => e = .returned (.bool (idB o && (decide (o = bare7 o) && fits7 o))) ∧ Mod none_ w w' :=
 rightO_gen w o L hO hL (by rw [hk]; decide) 125 108 (fun _ => #[]) (bare7 o) ⟨none, 0, 0⟩ (fits7 o) (fun W _ => ⟨Rd.none_, Nat.le_refl _⟩) (by decide) rfl rfl rfl
  (fun p => by rw [hk]; rfl) (fun p => by rw [hk]; rfl) (fun _ _ => rfl) (fun _ _ => rfl) (fun W => bare7_ok W o L) (fun W p _ _ => by have := name1_ok W o L; simpa [fits7] using this)
theorem rightO_ok (w : World) (o : Od) (L : SV) (hO : OdM w o L) (hL : L.n ≤ 140737488355328) (hk : (Lit.int .i64 o.k).wf = true) (hz : ∀ l ∈ o.legs, (txt l.n).size ≤ maxLen) :
  Calls Tryz.prog 32 #[.agg #[.int .i64 o.c, .int .i64 o.s, .int .i64 o.k, .string (txt o.acct), .string (txt o.peer), .int .i64 o.sum, .slice L.a L.n L.c, .int .i64 o.per, .int .i64 o.hold, .string (txt o.note)]] w fun e w' => e = .returned (.bool (rightO o)) ∧ Mod none_ w w' := by
 unfold rightO kindB
 by_cases h1 : o.k = 1
 ·rw [if_pos h1]; exact rightO_1 w o L hO hL h1 hz
 rw [if_neg h1]
 by_cases h2 : o.k = 2
 ·rw [if_pos h2]; exact rightO_2 w o L hO hL h2 hz
 rw [if_neg h2]
 by_cases h3 : o.k = 3
 ·rw [if_pos h3]; exact rightO_3 w o L hO hL h3 hz
 rw [if_neg h3]
 by_cases h4 : o.k = 4
 ·rw [if_pos h4]; exact rightO_4 w o L hO hL h4 hz
 rw [if_neg h4]
 by_cases h5 : o.k = 5
 ·rw [if_pos h5]; exact rightO_5 w o L hO hL h5 hz
 rw [if_neg h5]
 by_cases h6 : o.k = 6
 ·rw [if_pos h6]; exact rightO_6 w o L hO hL h6 hz
 rw [if_neg h6]
 by_cases h7 : o.k = 7
 ·rw [if_pos h7]; exact rightO_7 w o L hO hL h7 hz
 rw [if_neg h7]
 rw [Bool.and_false]
 have hs : ∀ n : Int, ¬ o.k = n → ¬ n = o.k := fun n h e => h e.symm
 exact rightO_no w o L hk (fun p => by simp [shapesD, DataW.atKey, Lit.sameKey, hs _ h1, hs _ h2, hs _ h3, hs _ h4, hs _ h5, hs _ h6, hs _ h7, zSh]) (fun p => by simp [shapesD, Maps.has, Lit.sameKey, hs _ h1, hs _ h2, hs _ h3, hs _ h4, hs _ h5, hs _ h6, hs _ h7])
def cmpI (a b : Int) : Int := if a < b then -1 else if b < a then 1 else 0
set_option maxRecDepth 512
theorem nan_ok (w : World) (a : Int) : Calls Tryz.prog 107 #[.int .i64 a] w fun e w' => e = .returned (.bool false) ∧ w = w' := by
 go_enter Tryz.func107, Tryz.ntmps107
 go_wp2
 go_ret
 simp
set_option maxRecDepth 100000
theorem cmpI_ok (w : World) (a b : Int) : Calls Tryz.prog 61 #[.int .i64 a, .int .i64 b] w fun e w' => e = .returned (.int .i64 (cmpI a b)) ∧ w = w' := by
 rcases (show a < b ∨ b < a ∨ a = b by omega) with h | h | h
 all_goals
  have e1 := decide_eq_true h
  go_enter Tryz.func61, Tryz.ntmps61
  go_wp2_with fail
  with_reducible refine (nan_ok _ _).mono ?_
  rintro e w1 ⟨rfl, rfl⟩
  dsimp only
  go_wp2_with fail
  with_reducible refine (nan_ok _ _).mono ?_
  rintro e w1 ⟨rfl, rfl⟩
  dsimp only
 ·have hr : Hid (cmpI a b = -1) := zH (by unfold cmpI; rw [if_pos h])
  go_wp2_with fail
  go_ret
  exact ⟨by rw [hr.out]; rfl, rfl⟩
 ·have hr : Hid (cmpI a b = 1) := zH (by unfold cmpI; rw [if_neg (by omega), if_pos h])
  have e2 : ¬ a < b := by omega
  go_wp2_with fail
  go_ret
  exact ⟨by rw [hr.out]; rfl, rfl⟩
 ·have hr : Hid (cmpI a b = 0) := zH (by unfold cmpI; rw [if_neg (by omega), if_neg (by omega)])
  have e2 : ¬ a < b := by omega
  have e3 : ¬ b < a := by omega
  clear h e1
  go_wp2_with fail
  go_ret
  exact ⟨by rw [hr.out]; rfl, rfl⟩
theorem rdiN_get {w : World} {A : Option Addr} {n : Nat} {xs : List Int} (h : RdI w A n xs) {j : Nat} (hj : j < n) : ∃ b o, A = some ⟨b, o, none⟩ ∧ ∃ hl : j < xs.length, w.cell? ⟨b, o + j, none⟩ = some (.int .i64 xs[j]) := by
 obtain ⟨b, o, e, hc⟩ := Rd.form h (by omega) (by omega)
 have hl : j < xs.length := by have := h.1; simp [ivs] at this; omega
 exact ⟨b, o, e, hl, hc j _ (by simp [ivs, hl])⟩
theorem or2_ok (w : World) (b : Nat) (x y : Int) (h : RdI w (some ⟨b, 0, none⟩) 2 [x, y]) : Calls Tryz.prog 60 #[.slice (some ⟨b, 0, none⟩) 2 2] w fun e w' => e = .returned (.int .i64 (if x = 0 then y else x)) ∧ w = w' := by
 obtain ⟨b1, o1, hb1, hl1, h1⟩ := rdiN_get h (j := 0) (by omega)
 obtain ⟨b2, o2, hb2, hl2, h2⟩ := rdiN_get h (j := 1) (by omega)
 cases hb1; cases hb2
 simp only [List.getElem_cons_zero, List.getElem_cons_succ, Nat.zero_add, Nat.add_zero] at h1 h2
 clear h
 by_cases hx : x = 0
 ·subst hx
  by_cases hy : y = 0
  ·subst hy
   go_enter Tryz.func60, Tryz.ntmps60
   go_wp2_with fail
   go_loopg [8] 2 (fun k v wr => ∃ i : Nat, v = .int .i64 i ∧ i + k = 2 ∧ w = wr)
   case atStart => exact ⟨0, rfl, by omega, rfl⟩
   case round =>
    obtain ⟨i, rfl, hik, rfl⟩ := hrel
    rcases (show i = 0 ∨ i = 1 ∨ i = 2 by omega) with rfl | rfl | rfl
    ·go_wp2_with fail
     go_roundg 1
     case measure => omega
     case rel => exact ⟨1, rfl, by omega, rfl⟩
    ·go_wp2_with fail
     go_roundg 0
     case measure => omega
     case rel => exact ⟨2, rfl, by omega, rfl⟩
    ·go_wp2_with fail
     go_ret
     simp
  ·go_enter Tryz.func60, Tryz.ntmps60
   go_wp2_with fail
   go_loopg [8] 2 (fun k v wr => ∃ i : Nat, v = .int .i64 i ∧ i + k = 2 ∧ i ≤ 1 ∧ w = wr)
   case atStart => exact ⟨0, rfl, by omega, by omega, rfl⟩
   case round =>
    obtain ⟨i, rfl, hik, hi1, rfl⟩ := hrel
    rcases (show i = 0 ∨ i = 1 by omega) with rfl | rfl
    ·go_wp2_with fail
     go_roundg 1
     case measure => omega
     case rel => exact ⟨1, rfl, by omega, by omega, rfl⟩
    ·go_wp2_with fail
     go_ret
     simp
 ·go_enter Tryz.func60, Tryz.ntmps60
  go_wp2_with fail
  go_loopg [8] 2 (fun k v wr => v = .int .i64 0 ∧ w = wr)
  case atStart => exact ⟨rfl, rfl⟩
  case round =>
   obtain ⟨rfl, rfl⟩ := hrel
   go_wp2_with fail
   go_ret
   simp [hx]
def isLt (a b : Is) : Bool := decide (a.r < b.r ∨ (a.r = b.r ∧ a.n < b.n))
def cmpIs (a b : Is) : Int := if cmpI a.r b.r = 0 then cmpI a.n b.n else cmpI a.r b.r
theorem cmpI_lt {a b : Int} : cmpI a b < 0 ↔ a < b := by
 unfold cmpI
 split
 ·omega
 ·split <;> omega
theorem cmpI_zero {a b : Int} : cmpI a b = 0 ↔ a = b := by
 unfold cmpI
 split
 ·omega
 ·split <;> omega
theorem cmpIs_lt (a b : Is) : decide (cmpIs a b < 0) = isLt a b := by
 unfold cmpIs isLt
 rw [decide_eq_decide]
 split <;> rename_i h
 ·rw [cmpI_zero] at h
  rw [cmpI_lt]; omega
 ·rw [cmpI_zero] at h
  rw [cmpI_lt]; omega
theorem compare_ok (w : World) (a b : Is) : Calls Tryz.prog 75 #[.agg #[.int .i64 a.r, .int .i64 a.n], .agg #[.int .i64 b.r, .int .i64 b.n]] w fun e w' => e = .returned (.int .i64 (cmpIs a b)) ∧ Mod none_ w w' := by
 obtain ⟨ar, an⟩ := a
 obtain ⟨br, bn⟩ := b
 dsimp only
 have h0 : Mod none_ w (((w.alloc (.cells #[.int .i64 ar, .int .i64 an] 27)).alloc (.cells #[.int .i64 br, .int .i64 bn] 27)).drew) := (((Mod.refl none_ w).alloc _).alloc _).drew
 have kC := zH (fun W a b => cmpI_ok W a b)
 obtain ⟨z, hz⟩ : ∃ z, cmpIs ⟨ar, an⟩ ⟨br, bn⟩ = z := ⟨_, rfl⟩
 rw [hz]
 have kO := zH (fun W b h => show Calls Tryz.prog 60 #[.slice (some ⟨b, 0, none⟩) 2 2] W (fun e w' => e = .returned (.int .i64 z) ∧ W = w') from by
  rw [← hz]; exact or2_ok W b (cmpI ar br) (cmpI an bn) h)
 clear hz
 replace h0 := zH h0
 go_enter Tryz.func75, Tryz.ntmps75
 go_wp2_with fail
 go_region_held3 (fun W => W.cell? ⟨w.heap.size, 0, none⟩ = some (.int .i64 ar) ∧ W.cell? ⟨w.heap.size, 1, none⟩ = some (.int .i64 an) ∧ W.cell? ⟨w.heap.size + 1, 0, none⟩ = some (.int .i64 br) ∧ W.cell? ⟨w.heap.size + 1, 1, none⟩ = some (.int .i64 bn)) (go_keep)
  (first | (go_at_call 61; with_reducible refine (kC.out _ _ _).mono ?_; rintro e w1 ⟨rfl, rfl⟩) | (go_at_call 60; refine (kO.out _ _ (by show RdI _ _ _ _; exact rdn _ _ 1 2 _ _ (0, 0) (by simp) rfl)).mono ?_; rintro e w1 ⟨rfl, rfl⟩))
 go_wp2_with fail
 go_ret
 exact ⟨rfl, ((((Mod.refl none_ w).alloc _).alloc _).alloc _).drew⟩
theorem ahead_ok (w : World) (a b : Is) : Calls Tryz.prog 96 #[.agg #[.int .i64 a.r, .int .i64 a.n], .agg #[.int .i64 b.r, .int .i64 b.n]] w fun e w' => e = .returned (.bool (isLt a b)) ∧ Mod none_ w w' := by
 have kC := zH (fun W => compare_ok W a b)
 have hz := cmpIs_lt a b
 generalize cmpIs a b = z at *
 replace hz := zH hz
 go_enter Tryz.func96, Tryz.ntmps96
 go_wp2_with fail
 with_reducible refine (kC.out _).mono ?_
 rintro e w1 ⟨rfl, hm⟩
 dsimp only
 have hm1 := (((Mod.refl none_ w).alloc _).alloc _).trans hm
 replace hm := zH hm
 replace hm1 := zH hm1
 go_wp2_with fail
 go_ret
 exact ⟨by rw [← hz.out]; rfl, hm1.out⟩
def rightI (a : Is) : Bool := decide (0 ≤ a.r ∧ a.r ≤ 6 ∧ 1 ≤ a.n ∧ a.n ≤ 10000)
theorem rightI_ok (w : World) (a : Is) : Calls Tryz.prog 204 #[.agg #[.int .i64 a.r, .int .i64 a.n]] w fun e w' => e = .returned (.bool (rightI a)) ∧ Mod none_ w w' := by
 obtain ⟨ar, an⟩ := a
 have hr : Hid (rightI ⟨ar, an⟩ = decide (0 ≤ ar ∧ ar ≤ 6 ∧ 1 ≤ an ∧ an ≤ 10000)) := zH rfl
 dsimp only
 go_enter Tryz.func204, Tryz.ntmps204
 go_wp2_with fail
 all_goals
  go_ret
  refine ⟨?_, (Mod.refl none_ w).alloc _⟩
  rw [hr.out]
  first | (simp_all; done) | (simp; omega)
structure Cls (D : World → Prop) where
 W : World
 ok : D W
theorem wp_region_cls {P : Program} {id : Nat} {Q : Exit → Act → World → Prop} {a : Act} {w : World} {l : List Oper} (D : World → Prop) (hm : P.follows .mixedOrders = true) (hB : Region.lexB .any l.toArray = true) (hC : D w.drew)
  (h : wpQuiet P l.toArray (fun w' => ∃ s : Cls D, w' = s.W) (fun a' => ∀ w', (∃ s : Cls D, w' = s.W) → Q .normal a' w') l a) : (Code.region id l.toArray true).wp P Q a w :=
 wp_region_quiet (C := fun w' => ∃ s : Cls D, w' = s.W) hm hB ⟨⟨_, hC⟩, rfl⟩ (by simpa using h)
theorem cls_of {P : Program} {D : World → Prop} {f : FuncId} {args : Array Value} {w : World} {v : Value}
  (h : Calls P f args w fun e w' => e = .returned v ∧ D w') : Calls P f args w fun e w'' => e = .returned v ∧ ∃ t : Cls D, w'' = t.W :=
 h.mono fun _ _ ⟨he, hd⟩ => ⟨he, ⟨_, hd⟩, rfl⟩
def goodD (i : Is) (ds : List Is) (j : Nat) : Bool :=
 match ds[j]? with
 | none => true
 | some d => rightI d && !decide (d = i) && (decide (j = 0) || match ds[j - 1]? with | none => true | some p => isLt p d)
def depsB (i : Is) (ds : List Is) : Bool := (List.range ds.length).all (goodD i ds)
def rightE (i : Is) (e : En) : Bool := depsB i e.deps && (rightI i && (if e.none then decide (e.o = od0) else rightO e.o))
theorem depsB_no {i : Is} {ds : List Is} {j : Nat} (hj : j < ds.length) (h : goodD i ds j = false) : depsB i ds = false := by
 unfold depsB
 rw [List.all_eq_false]
 exact ⟨j, List.mem_range.2 hj, by rw [h]; simp⟩
theorem depsB_yes {i : Is} {ds : List Is} (h : ∀ j, j < ds.length → goodD i ds j = true) : depsB i ds = true := by
 unfold depsB
 rw [List.all_eq_true]
 exact fun j hj => h j (List.mem_range.1 hj)
theorem rightE_ok (w : World) (i : Is) (e : En) (L D : SV) (hE : EnM w e L D) (hL : L.n ≤ 140737488355328) (hDn : D.n ≤ 140737488355328) (hk : (Lit.int .i64 e.o.k).wf = true) (hz : ∀ l ∈ e.o.legs, (txt l.n).size ≤ maxLen) :
  Calls Tryz.prog 154 #[.agg #[.int .i64 i.r, .int .i64 i.n], .agg #[.int .i64 e.o.c, .int .i64 e.o.s, .int .i64 e.o.k, .string (txt e.o.acct), .string (txt e.o.peer), .int .i64 e.o.sum, .slice L.a L.n L.c, .int .i64 e.o.per, .int .i64 e.o.hold, .string (txt e.o.note), .bool e.none, .slice D.a D.n D.c]] w fun e' w' => e' = .returned (.bool (rightE i e)) ∧ Mod none_ w w' := by
 obtain ⟨DA, n, Dc⟩ := D
 dsimp only at hDn ⊢
 have kR := zH (fun W a => rightI_ok W a)
 have kA := zH (fun W a b => ahead_ok W a b)
 have hlen := hE.rd.len
 have hrd := hE.rd
 dsimp only at hlen hrd
 have hB1 : Blk ((w.alloc (.cells #[.int .i64 i.r, .int .i64 i.n] 27)).alloc (.cells #[.int .i64 e.o.c, .int .i64 e.o.s, .int .i64 e.o.k, .string (txt e.o.acct), .string (txt e.o.peer), .int .i64 e.o.sum, .slice L.a L.n L.c, .int .i64 e.o.per, .int .i64 e.o.hold, .string (txt e.o.note), .bool e.none, .slice DA n Dc] 53)) w.heap.size 27 #[.int .i64 i.r, .int .i64 i.n] := (Blk.new w _ _).alloc _
 have hB2 : Blk ((w.alloc (.cells #[.int .i64 i.r, .int .i64 i.n] 27)).alloc (.cells #[.int .i64 e.o.c, .int .i64 e.o.s, .int .i64 e.o.k, .string (txt e.o.acct), .string (txt e.o.peer), .int .i64 e.o.sum, .slice L.a L.n L.c, .int .i64 e.o.per, .int .i64 e.o.hold, .string (txt e.o.note), .bool e.none, .slice DA n Dc] 53)) (w.heap.size + 1) 53 #[.int .i64 e.o.c, .int .i64 e.o.s, .int .i64 e.o.k, .string (txt e.o.acct), .string (txt e.o.peer), .int .i64 e.o.sum, .slice L.a L.n L.c, .int .i64 e.o.per, .int .i64 e.o.hold, .string (txt e.o.note), .bool e.none, .slice DA n Dc] := heap_alloc2_new w _ _
 have hm0 := ((Mod.refl none_ w).alloc (.cells #[.int .i64 i.r, .int .i64 i.n] 27)).alloc (.cells #[.int .i64 e.o.c, .int .i64 e.o.s, .int .i64 e.o.k, .string (txt e.o.acct), .string (txt e.o.peer), .int .i64 e.o.sum, .slice L.a L.n L.c, .int .i64 e.o.per, .int .i64 e.o.hold, .string (txt e.o.note), .bool e.none, .slice DA n Dc] 53)
 obtain ⟨wB, hwB⟩ : ∃ wB, (w.alloc (.cells #[.int .i64 i.r, .int .i64 i.n] 27)).alloc (.cells #[.int .i64 e.o.c, .int .i64 e.o.s, .int .i64 e.o.k, .string (txt e.o.acct), .string (txt e.o.peer), .int .i64 e.o.sum, .slice L.a L.n L.c, .int .i64 e.o.per, .int .i64 e.o.hold, .string (txt e.o.note), .bool e.none, .slice DA n Dc] 53) = wB := ⟨_, rfl⟩
 rw [hwB] at hB1 hB2 hm0
 replace hE := zH hE
 replace hB1 := zH hB1
 replace hB2 := zH hB2
 replace hm0 := zH hm0
 replace hlen := zH hlen
 replace hk := zH hk
 replace hz := zH hz
 replace hwB := zH hwB
 replace hrd := zH hrd
 go_enter Tryz.func154, Tryz.ntmps154
 go_wp2_with fail
 rw [hwB.out]
 go_loopg [10] n (fun k x wr => ∃ j : Nat, x = .int .i64 j ∧ j + k = n ∧ (∀ j', j' < j → goodD i e.deps j' = true) ∧ Mod none_ wB wr)
 case atStart => exact ⟨0, rfl, by omega, fun j' h => absurd h (Nat.not_lt_zero _), Mod.refl _ _⟩
 case round =>
  obtain ⟨j, rfl, hj, hg, hmr⟩ := hrel
  by_cases hlt : j < n
  ·obtain ⟨b, o, d, rfl, hmem, hdj, y1, y2⟩ := rdp_get (hrd.out.mod0 (hm0.out.trans hmr)) hlt
   obtain ⟨dr, dn⟩ := d
   dsimp only at y1 y2
   have hjl : j < e.deps.length := by rw [hlen.out]; exact hlt
   have hwA := hmr.alloc (.cells #[.int .i64 dr, .int .i64 dn] 27)
   have hI := Blk.new wr 27 #[.int .i64 dr, .int .i64 dn]
   have b1 := (hB1.out.mod hmr (fun h => h)).alloc (.cells #[.int .i64 dr, .int .i64 dn] 27)
   have b2 := (hB2.out.mod hmr (fun h => h)).alloc (.cells #[.int .i64 dr, .int .i64 dn] 27)
   have rd1 := (hrd.out.mod0 (hm0.out.trans hmr)).mod0 ((Mod.refl none_ wr).alloc (.cells #[.int .i64 dr, .int .i64 dn] 27))
   have hne : Nonempty (Cls (Mod none_ (wr.alloc (.cells #[.int .i64 dr, .int .i64 dn] 27)))) := ⟨⟨_, Mod.refl _ _⟩⟩
   have g0 : ∀ s : Cls (Mod none_ (wr.alloc (.cells #[.int .i64 dr, .int .i64 dn] 27))), s.W.cell? ⟨wr.heap.size, 0, none⟩ = some (.int .i64 dr) := fun s => (hI.mod s.ok (fun h => h)).cell_ rfl
   have g1 : ∀ s : Cls (Mod none_ (wr.alloc (.cells #[.int .i64 dr, .int .i64 dn] 27))), s.W.cell? ⟨wr.heap.size, 1, none⟩ = some (.int .i64 dn) := fun s => (hI.mod s.ok (fun h => h)).cell_ rfl
   have g2 : ∀ s : Cls (Mod none_ (wr.alloc (.cells #[.int .i64 dr, .int .i64 dn] 27))), s.W.cell? ⟨w.heap.size, 0, none⟩ = some (.int .i64 i.r) := fun s => (b1.mod s.ok (fun h => h)).cell_ rfl
   have g3 : ∀ s : Cls (Mod none_ (wr.alloc (.cells #[.int .i64 dr, .int .i64 dn] 27))), s.W.cell? ⟨w.heap.size, 1, none⟩ = some (.int .i64 i.n) := fun s => (b1.mod s.ok (fun h => h)).cell_ rfl
   have g4 : ∀ s : Cls (Mod none_ (wr.alloc (.cells #[.int .i64 dr, .int .i64 dn] 27))), s.W.cell? ⟨w.heap.size + 1, 11, none⟩ = some (.slice (some ⟨b, o, none⟩) n Dc) := fun s => (b2.mod s.ok (fun h => h)).cell_ rfl
   have kc := zH (fun s : Cls (Mod none_ (wr.alloc (.cells #[.int .i64 dr, .int .i64 dn] 27))) => (kR.out s.W ⟨dr, dn⟩).mono (fun e w' (h : _ ∧ _) => (⟨h.1, s.ok.trans h.2⟩ : _ ∧ Mod none_ (wr.alloc (.cells #[.int .i64 dr, .int .i64 dn] 27)) w')))
   have hei := fun W => eql_is W ⟨dr, dn⟩ i
   unfold isV at hei
   dsimp only at hei
   have hgj : goodD i e.deps j = (rightI ⟨dr, dn⟩ && !decide ((⟨dr, dn⟩ : Is) = i) && (decide (j = 0) || match e.deps[j - 1]? with | none => true | some p => isLt p ⟨dr, dn⟩)) := by unfold goodD; rw [hdj]
   have hnx : goodD i e.deps j = true → ∀ j', j' < j + 1 → goodD i e.deps j' = true := fun h j' hj' => by
    by_cases e1 : j' = j
    ·subst e1; exact h
    ·exact hg j' (by omega)
   replace hI := zH hI
   replace b1 := zH b1
   replace b2 := zH b2
   cases hr : rightI ⟨dr, dn⟩ with
   | false =>
    rw [hr] at kc
    have hno := depsB_no hjl (by rw [hgj, hr]; rfl)
    have ka := kc
    clear hgj hnx
    replace rd1 := zH rd1
    replace hr := zH hr
    replace hno := zH hno
    replace hwA := zH hwA
    replace hg := zH hg
    replace hmr := zH hmr
    replace hdj := zH hdj
    go_wp2_with fail
    refine wp_region_cls (Mod none_ (wr.alloc (.cells #[.int .i64 dr, .int .i64 dn] 27))) (by kernel_rfl) (by kernel_rfl) (Mod.refl none_ _).drew ?_
    repeat (go_big_quiet_step (first | (go_at_call 204; exact cls_of (kc.out _)) | (go_at_call 96; exact cls_of (ka.out _))))
    refine wpQuiet_nil ?_
    rintro _ ⟨⟨W, hW⟩, rfl⟩
    replace hW := zH (hm0.out.trans (hwA.out.trans hW))
    go_wp2_with fail
    go_ret
    refine ⟨?_, hW.out⟩
    rw [show rightE i e = false by unfold rightE; rw [hno.out]; rfl]; rfl
   | true =>
    rw [hr] at kc
    by_cases hdi : (⟨dr, dn⟩ : Is) = i
    ·rw [decide_eq_true hdi] at hei
     have hno := depsB_no hjl (by rw [hgj, hr, decide_eq_true hdi]; rfl)
     have ka := kc
     clear hgj hnx
     replace rd1 := zH rd1
     replace hr := zH hr
     replace hdi := zH hdi
     replace hno := zH hno
     replace hwA := zH hwA
     replace hg := zH hg
     replace hmr := zH hmr
     replace hdj := zH hdj
     go_wp2_with fail
     refine wp_region_cls (Mod none_ (wr.alloc (.cells #[.int .i64 dr, .int .i64 dn] 27))) (by kernel_rfl) (by kernel_rfl) (Mod.refl none_ _).drew ?_
     repeat (go_big_quiet_step (first | (go_at_call 204; exact cls_of (kc.out _)) | (go_at_call 96; exact cls_of (ka.out _))))
     refine wpQuiet_nil ?_
     rintro _ ⟨⟨W, hW⟩, rfl⟩
     replace hW := zH (hm0.out.trans (hwA.out.trans hW))
     go_wp2_with fail
     go_ret
     refine ⟨?_, hW.out⟩
     rw [show rightE i e = false by unfold rightE; rw [hno.out]; rfl]; rfl
    ·rw [decide_eq_false hdi] at hei
     by_cases hj0 : j = 0
     ·have hyes := hnx (by rw [hgj, hr, decide_eq_false hdi, decide_eq_true hj0]; rfl)
      have ka := kc
      clear hgj hnx
      replace rd1 := zH rd1
      replace hr := zH hr
      replace hdi := zH hdi
      subst hj0
      simp only [Nat.zero_mul, Nat.add_zero] at y1 y2
      replace hyes := zH hyes
      replace hwA := zH hwA
      replace hg := zH hg
      replace hmr := zH hmr
      replace hdj := zH hdj
      go_wp2_with fail
      refine wp_region_cls (Mod none_ (wr.alloc (.cells #[.int .i64 dr, .int .i64 dn] 27))) (by kernel_rfl) (by kernel_rfl) (Mod.refl none_ _).drew ?_
      repeat (go_big_quiet_step (first | (go_at_call 204; exact cls_of (kc.out _)) | (go_at_call 96; exact cls_of (ka.out _))))
      refine wpQuiet_nil ?_
      rintro _ ⟨⟨W, hW⟩, rfl⟩
      replace hW := zH (hwA.out.trans hW)
      go_wp2_with fail
      go_roundg (gk - 1)
      case measure => omega
      case rel => exact ⟨0 + 1, by go_num, by omega, hyes.out, hW.out⟩
     ·obtain ⟨j1, rfl⟩ : ∃ j1, j = j1 + 1 := ⟨j - 1, by omega⟩
      obtain ⟨b', o', p, hbo, hmp, hdp, z1, z2⟩ := rdp_get rd1 (j := j1) (by omega)
      cases hbo
      obtain ⟨pr, pn⟩ := p
      dsimp only at z1 z2
      have g5 : ∀ s : Cls (Mod none_ (wr.alloc (.cells #[.int .i64 dr, .int .i64 dn] 27))), s.W.cell? ⟨b, o + j1*2, none⟩ = some (.int .i64 pr) := fun s => s.ok.cell_some z1 (fun h => h)
      have g6 : ∀ s : Cls (Mod none_ (wr.alloc (.cells #[.int .i64 dr, .int .i64 dn] 27))), s.W.cell? ⟨b, o + j1*2 + 1, none⟩ = some (.int .i64 pn) := fun s => s.ok.cell_some z2 (fun h => h)
      clear z1 z2
      have ka := zH (fun s : Cls (Mod none_ (wr.alloc (.cells #[.int .i64 dr, .int .i64 dn] 27))) => (kA.out s.W ⟨pr, pn⟩ ⟨dr, dn⟩).mono (fun e w' (h : _ ∧ _) => (⟨h.1, s.ok.trans h.2⟩ : _ ∧ Mod none_ (wr.alloc (.cells #[.int .i64 dr, .int .i64 dn] 27)) w')))
      rw [show j1 + 1 - 1 = j1 from rfl, hdp] at hgj
      dsimp only at hgj
      have hw1 : wrap64 (((j1 + 1 : Nat) : Int) - 1) = (j1 : Int) := by unfold wrap64; omega
      have hw2 : IntKind.i64.wrap (((j1 + 1 : Nat) : Int) - 1) = (j1 : Int) := by rw [IntKind.wrap_i64]; omega
      have hw3 : ((j1 : Int) + 1 - 1) = (j1 : Int) := by omega
      have hu1 : (0 : Int) ≤ (j1 : Int) := by omega
      have hu2 : (j1 : Int) < (n : Int) := by omega
      cases hlt2 : isLt ⟨pr, pn⟩ ⟨dr, dn⟩ with
      | false =>
       rw [hlt2] at ka
       have hno := depsB_no hjl (by rw [hgj, hr, decide_eq_false hdi, hlt2]; rfl)
       clear hgj hnx
       replace rd1 := zH rd1
       replace hr := zH hr
       replace hdi := zH hdi
       replace hdp := zH hdp
       replace hmp := zH hmp
       replace hlt2 := zH hlt2
       replace hno := zH hno
       replace hwA := zH hwA
       replace hg := zH hg
       replace hmr := zH hmr
       replace hdj := zH hdj
       go_wp2_with fail
       refine wp_region_cls (Mod none_ (wr.alloc (.cells #[.int .i64 dr, .int .i64 dn] 27))) (by kernel_rfl) (by kernel_rfl) (Mod.refl none_ _).drew ?_
       repeat (go_big_quiet_step (first | (go_at_call 204; exact cls_of (kc.out _)) | (go_at_call 96; exact cls_of (ka.out _))))
       refine wpQuiet_nil ?_
       rintro _ ⟨⟨W, hW⟩, rfl⟩
       replace hW := zH (hm0.out.trans (hwA.out.trans hW))
       go_wp2_with fail
       go_ret
       refine ⟨?_, hW.out⟩
       rw [show rightE i e = false by unfold rightE; rw [hno.out]; rfl]; rfl
      | true =>
       rw [hlt2] at ka
       have hyes := hnx (by rw [hgj, hr, decide_eq_false hdi, hlt2]; simp)
       clear hgj hnx
       replace rd1 := zH rd1
       replace hr := zH hr
       replace hdi := zH hdi
       replace hdp := zH hdp
       replace hmp := zH hmp
       replace hlt2 := zH hlt2
       replace hyes := zH hyes
       replace hwA := zH hwA
       replace hg := zH hg
       replace hmr := zH hmr
       replace hdj := zH hdj
       go_wp2_with fail
       refine wp_region_cls (Mod none_ (wr.alloc (.cells #[.int .i64 dr, .int .i64 dn] 27))) (by kernel_rfl) (by kernel_rfl) (Mod.refl none_ _).drew ?_
       repeat (go_big_quiet_step (first | (go_at_call 204; exact cls_of (kc.out _)) | (go_at_call 96; exact cls_of (ka.out _))))
       refine wpQuiet_nil ?_
       rintro _ ⟨⟨W, hW⟩, rfl⟩
       replace hW := zH (hwA.out.trans hW)
       go_wp2_with fail
       go_roundg (gk - 1)
       case measure => omega
       case rel => exact ⟨j1 + 1 + 1, by go_num, by omega, hyes.out, hW.out⟩
  ·obtain rfl : j = n := by omega
   have hdp : depsB i e.deps = true := depsB_yes fun j' h => hg j' (by rw [hlen.out] at h; exact h)
   have hB3 := hB1.out.mod hmr (fun h => h)
   have hB4 := hB2.out.mod hmr (fun h => h)
   have hm1 := hm0.out.trans hmr
   have p0 : wr.cell? ⟨w.heap.size, 0, none⟩ = some (.int .i64 i.r) := hB3.cell_ rfl
   have p1 : wr.cell? ⟨w.heap.size, 1, none⟩ = some (.int .i64 i.n) := hB3.cell_ rfl
   have q10 : wr.cell? ⟨w.heap.size + 1, 10, none⟩ = some (.bool e.none) := hB4.cell_ rfl
   have kI := zH (kR.out wr i)
   have hre : rightE i e = (rightI i && (if e.none then decide (e.o = od0) else rightO e.o)) := by unfold rightE; rw [hdp]; rfl
   cases hnn : e.none with
   | true =>
    rw [hnn] at q10 hre
    rw [if_pos rfl] at hre
    have kS := zH (fun W (h : Mod none_ w W) => sameO_ok W e.o od0 L ⟨none, 0, 0⟩ (hE.out.od.mod0 h) (od0_mem W) hL (by decide))
    replace hg := zH hg
    replace hmr := zH hmr
    replace hdp := zH hdp
    replace hB3 := zH hB3
    replace hB4 := zH hB4
    replace hm1 := zH hm1
    replace hnn := zH hnn
    replace hre := zH hre
    go_wp2_with fail
    with_reducible refine kI.out.mono ?_
    rintro e' w2 ⟨rfl, hm2⟩
    dsimp only
    have hB5 := hB4.out.mod hm2 (fun h => h)
    have d0 : w2.cell? ⟨w.heap.size + 1, 0, none⟩ = some (.int .i64 e.o.c) := hB5.cell_ rfl
    have d1 : w2.cell? ⟨w.heap.size + 1, 1, none⟩ = some (.int .i64 e.o.s) := hB5.cell_ rfl
    have d2 : w2.cell? ⟨w.heap.size + 1, 2, none⟩ = some (.int .i64 e.o.k) := hB5.cell_ rfl
    have d3 : w2.cell? ⟨w.heap.size + 1, 3, none⟩ = some (.string (txt e.o.acct)) := hB5.cell_ rfl
    have d4 : w2.cell? ⟨w.heap.size + 1, 4, none⟩ = some (.string (txt e.o.peer)) := hB5.cell_ rfl
    have d5 : w2.cell? ⟨w.heap.size + 1, 5, none⟩ = some (.int .i64 e.o.sum) := hB5.cell_ rfl
    have d6 : w2.cell? ⟨w.heap.size + 1, 6, none⟩ = some (.slice L.a L.n L.c) := hB5.cell_ rfl
    have d7 : w2.cell? ⟨w.heap.size + 1, 7, none⟩ = some (.int .i64 e.o.per) := hB5.cell_ rfl
    have d8 : w2.cell? ⟨w.heap.size + 1, 8, none⟩ = some (.int .i64 e.o.hold) := hB5.cell_ rfl
    have d9 : w2.cell? ⟨w.heap.size + 1, 9, none⟩ = some (.string (txt e.o.note)) := hB5.cell_ rfl
    have hm3 := zH (hm1.out.trans hm2)
    have kS2 := zH (kS.out w2 hm3.out)
    clear hm2
    replace hB5 := zH hB5
    cases hri : rightI i with
    | false =>
     have hre := zH (hre.out.trans (by rw [hri]))
     replace hri := zH hri
     go_wp2_with fail
     go_ret
     exact ⟨by rw [hre.out]; rfl, hm3.out⟩
    | true =>
     have hre := zH (hre.out.trans (by rw [hri]))
     replace hri := zH hri
     go_wp2_with fail
     refine kS2.out.mono ?_
     rintro e' w3 ⟨rfl, hm4⟩
     dsimp only
     have hm5 := zH (hm3.out.trans hm4)
     replace hm4 := zH hm4
     go_wp2_with fail
     go_ret
     exact ⟨by rw [hre.out]; rfl, hm5.out⟩
   | false =>
    rw [hnn] at q10 hre
    rw [if_neg (by simp)] at hre
    have kS := zH (fun W (h : Mod none_ w W) => rightO_ok W e.o L (hE.out.od.mod0 h) hL hk.out hz.out)
    replace hg := zH hg
    replace hmr := zH hmr
    replace hdp := zH hdp
    replace hB3 := zH hB3
    replace hB4 := zH hB4
    replace hm1 := zH hm1
    replace hnn := zH hnn
    replace hre := zH hre
    go_wp2_with fail
    with_reducible refine kI.out.mono ?_
    rintro e' w2 ⟨rfl, hm2⟩
    dsimp only
    have hB5 := hB4.out.mod hm2 (fun h => h)
    have d0 : w2.cell? ⟨w.heap.size + 1, 0, none⟩ = some (.int .i64 e.o.c) := hB5.cell_ rfl
    have d1 : w2.cell? ⟨w.heap.size + 1, 1, none⟩ = some (.int .i64 e.o.s) := hB5.cell_ rfl
    have d2 : w2.cell? ⟨w.heap.size + 1, 2, none⟩ = some (.int .i64 e.o.k) := hB5.cell_ rfl
    have d3 : w2.cell? ⟨w.heap.size + 1, 3, none⟩ = some (.string (txt e.o.acct)) := hB5.cell_ rfl
    have d4 : w2.cell? ⟨w.heap.size + 1, 4, none⟩ = some (.string (txt e.o.peer)) := hB5.cell_ rfl
    have d5 : w2.cell? ⟨w.heap.size + 1, 5, none⟩ = some (.int .i64 e.o.sum) := hB5.cell_ rfl
    have d6 : w2.cell? ⟨w.heap.size + 1, 6, none⟩ = some (.slice L.a L.n L.c) := hB5.cell_ rfl
    have d7 : w2.cell? ⟨w.heap.size + 1, 7, none⟩ = some (.int .i64 e.o.per) := hB5.cell_ rfl
    have d8 : w2.cell? ⟨w.heap.size + 1, 8, none⟩ = some (.int .i64 e.o.hold) := hB5.cell_ rfl
    have d9 : w2.cell? ⟨w.heap.size + 1, 9, none⟩ = some (.string (txt e.o.note)) := hB5.cell_ rfl
    have hm3 := zH (hm1.out.trans hm2)
    have kS2 := zH (kS.out w2 hm3.out)
    clear hm2
    replace hB5 := zH hB5
    cases hri : rightI i with
    | false =>
     have hre := zH (hre.out.trans (by rw [hri]))
     replace hri := zH hri
     go_wp2_with fail
     go_ret
     exact ⟨by rw [hre.out]; rfl, hm3.out⟩
    | true =>
     have hre := zH (hre.out.trans (by rw [hri]))
     replace hri := zH hri
     go_wp2_with fail
     with_reducible refine kS2.out.mono ?_
     rintro e' w3 ⟨rfl, hm4⟩
     dsimp only
     have hm5 := zH (hm3.out.trans hm4)
     replace hm4 := zH hm4
     go_wp2_with fail
     go_ret
     exact ⟨by rw [hre.out]; rfl, hm5.out⟩
end Go.Proofs.YtfkfiokkjjnhiaaGreat
