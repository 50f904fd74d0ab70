import Derived.Test.YtdekehhmjehicaaGreatQp3
import Derived.Deep.Cut
import Derived.Deep.RegionHeld3
import Derived.Deep.CutRange
import Derived.Test.YtdekehhmjehicaaGreatQp1
import Derived.Test.YtdekehhmjehicaaGreatQp2
import Derived.BigQuiet
import Derived.Deep.LoopGhost
/-
  order's shapes: the bare orders.
-/
namespace Go.Proofs.YtdekehhmjehicaaGreat
set_option linter.unusedVariables false
set_option linter.unusedSimpArgs false
open Go.RowKit
theorem order_size : (Tryz.prog.info? 41).map (·.size) = some 10 := by kernel_rfl
/-- the end of a function whose result is an order in a block -/
theorem ret_order {fn : Func} {p : Tmp} (h : fn.results = #[.cell p 41]) {a : Act} {w : World} {R : Ending → World → Prop} (g : Nat) (cs : Array Value) (hp : a.tmps.getD p undef = .pointer (some ⟨g, 0, none⟩))
    (hg : Blk w g 41 cs) (hs : cs.size = 10) (hd : a.defers = []) (hR : R (.returned (.agg cs)) w) : bodyPost Tryz.prog fn R .ret a w :=
  bodyPost_ret (results_cell_row h a.tmps w g _ cs _ _ hp hg Tryz.underlying41 rfl (by rw [hs]; exact order_size)) hd hR
def bare1 (o : Od) : Od := ⟨o.c, o.s, o.k, o.acct, [], o.sum, [], 0, 0, []⟩
set_option maxRecDepth 100000 in
theorem bare1_ok (w : World) (o : Od) (L : SV) :
    Calls Tryz.prog 84 #[.agg #[.int .i64 o.c, .int .i64 o.s, .int .i64 o.k, .string (txt o.acct), .string (txt o.peer), .int .i64 o.sum, .slice L.a L.n L.c, .int .i64 o.per, .int .i64 o.hold, .string (txt o.note)]] w fun e w' => e = .returned (.agg #[.int .i64 0, .int .i64 0, .int .i64 0, .string (txt o.acct), .string ⟨#[]⟩, .int .i64 o.sum, .slice none 0 0, .int .i64 0, .int .i64 0, .string ⟨#[]⟩]) ∧ Mod none_ w w' := by
  go_enter Tryz.func84, Tryz.ntmps84
  go_wp2_with fail
  exact ret_order rfl (w.heap.size + 1) _ rfl (heap_alloc2_new _ _ _) rfl rfl ⟨rfl, ((Mod.refl none_ w).alloc _).alloc _⟩
def bare2 (o : Od) : Od := ⟨o.c, o.s, o.k, [], [], 0, o.legs, o.per, 0, o.note⟩
set_option maxRecDepth 100000 in
theorem bare2_ok (w : World) (o : Od) (L : SV) :
    Calls Tryz.prog 86 #[.agg #[.int .i64 o.c, .int .i64 o.s, .int .i64 o.k, .string (txt o.acct), .string (txt o.peer), .int .i64 o.sum, .slice L.a L.n L.c, .int .i64 o.per, .int .i64 o.hold, .string (txt o.note)]] w fun e w' => e = .returned (.agg #[.int .i64 0, .int .i64 0, .int .i64 0, .string ⟨#[]⟩, .string ⟨#[]⟩, .int .i64 0, .slice L.a L.n L.c, .int .i64 o.per, .int .i64 0, .string (txt o.note)]) ∧ Mod none_ w w' := by
  go_enter Tryz.func86, Tryz.ntmps86
  go_wp2_with fail
  exact ret_order rfl (w.heap.size + 1) _ rfl (heap_alloc2_new _ _ _) rfl rfl ⟨rfl, ((Mod.refl none_ w).alloc _).alloc _⟩
def bare3 (o : Od) : Od := ⟨o.c, o.s, o.k, o.acct, [], o.sum, [], 0, 0, []⟩
set_option maxRecDepth 100000 in
theorem bare3_ok (w : World) (o : Od) (L : SV) :
    Calls Tryz.prog 90 #[.agg #[.int .i64 o.c, .int .i64 o.s, .int .i64 o.k, .string (txt o.acct), .string (txt o.peer), .int .i64 o.sum, .slice L.a L.n L.c, .int .i64 o.per, .int .i64 o.hold, .string (txt o.note)]] w fun e w' => e = .returned (.agg #[.int .i64 0, .int .i64 0, .int .i64 0, .string (txt o.acct), .string ⟨#[]⟩, .int .i64 o.sum, .slice none 0 0, .int .i64 0, .int .i64 0, .string ⟨#[]⟩]) ∧ Mod none_ w w' := by
  go_enter Tryz.func90, Tryz.ntmps90
  go_wp2_with fail
  exact ret_order rfl (w.heap.size + 1) _ rfl (heap_alloc2_new _ _ _) rfl rfl ⟨rfl, ((Mod.refl none_ w).alloc _).alloc _⟩
def bare4 (o : Od) : Od := ⟨o.c, o.s, o.k, o.acct, o.peer, o.sum, [], o.per, o.hold, []⟩
set_option maxRecDepth 100000 in
theorem bare4_ok (w : World) (o : Od) (L : SV) :
    Calls Tryz.prog 92 #[.agg #[.int .i64 o.c, .int .i64 o.s, .int .i64 o.k, .string (txt o.acct), .string (txt o.peer), .int .i64 o.sum, .slice L.a L.n L.c, .int .i64 o.per, .int .i64 o.hold, .string (txt o.note)]] w fun e w' => e = .returned (.agg #[.int .i64 0, .int .i64 0, .int .i64 0, .string (txt o.acct), .string (txt o.peer), .int .i64 o.sum, .slice none 0 0, .int .i64 o.per, .int .i64 o.hold, .string ⟨#[]⟩]) ∧ Mod none_ w w' := by
  go_enter Tryz.func92, Tryz.ntmps92
  go_wp2_with fail
  exact ret_order rfl (w.heap.size + 1) _ rfl (heap_alloc2_new _ _ _) rfl rfl ⟨rfl, ((Mod.refl none_ w).alloc _).alloc _⟩
def bare5 (o : Od) : Od := ⟨o.c, o.s, o.k, o.acct, [], 0, [], 0, o.hold, []⟩
set_option maxRecDepth 100000 in
theorem bare5_ok (w : World) (o : Od) (L : SV) :
    Calls Tryz.prog 95 #[.agg #[.int .i64 o.c, .int .i64 o.s, .int .i64 o.k, .string (txt o.acct), .string (txt o.peer), .int .i64 o.sum, .slice L.a L.n L.c, .int .i64 o.per, .int .i64 o.hold, .string (txt o.note)]] w fun e w' => e = .returned (.agg #[.int .i64 0, .int .i64 0, .int .i64 0, .string (txt o.acct), .string ⟨#[]⟩, .int .i64 0, .slice none 0 0, .int .i64 0, .int .i64 o.hold, .string ⟨#[]⟩]) ∧ Mod none_ w w' := by
  go_enter Tryz.func95, Tryz.ntmps95
  go_wp2_with fail
  exact ret_order rfl (w.heap.size + 1) _ rfl (heap_alloc2_new _ _ _) rfl rfl ⟨rfl, ((Mod.refl none_ w).alloc _).alloc _⟩
def bare6 (o : Od) : Od := ⟨o.c, o.s, o.k, [], [], 0, [], o.per, 0, []⟩
set_option maxRecDepth 100000 in
theorem bare6_ok (w : World) (o : Od) (L : SV) :
    Calls Tryz.prog 97 #[.agg #[.int .i64 o.c, .int .i64 o.s, .int .i64 o.k, .string (txt o.acct), .string (txt o.peer), .int .i64 o.sum, .slice L.a L.n L.c, .int .i64 o.per, .int .i64 o.hold, .string (txt o.note)]] w fun e w' => e = .returned (.agg #[.int .i64 0, .int .i64 0, .int .i64 0, .string ⟨#[]⟩, .string ⟨#[]⟩, .int .i64 0, .slice none 0 0, .int .i64 o.per, .int .i64 0, .string ⟨#[]⟩]) ∧ Mod none_ w w' := by
  go_enter Tryz.func97, Tryz.ntmps97
  go_wp2_with fail
  exact ret_order rfl (w.heap.size + 1) _ rfl (heap_alloc2_new _ _ _) rfl rfl ⟨rfl, ((Mod.refl none_ w).alloc _).alloc _⟩
def bare7 (o : Od) : Od := ⟨o.c, o.s, o.k, o.acct, [], 0, [], 0, 0, []⟩
set_option maxRecDepth 100000 in
theorem bare7_ok (w : World) (o : Od) (L : SV) :
    Calls Tryz.prog 99 #[.agg #[.int .i64 o.c, .int .i64 o.s, .int .i64 o.k, .string (txt o.acct), .string (txt o.peer), .int .i64 o.sum, .slice L.a L.n L.c, .int .i64 o.per, .int .i64 o.hold, .string (txt o.note)]] w fun e w' => e = .returned (.agg #[.int .i64 0, .int .i64 0, .int .i64 0, .string (txt o.acct), .string ⟨#[]⟩, .int .i64 0, .slice none 0 0, .int .i64 0, .int .i64 0, .string ⟨#[]⟩]) ∧ Mod none_ w w' := by
  go_enter Tryz.func99, Tryz.ntmps99
  go_wp2_with fail
  exact ret_order rfl (w.heap.size + 1) _ rfl (heap_alloc2_new _ _ _) rfl rfl ⟨rfl, ((Mod.refl none_ w).alloc _).alloc _⟩
end Go.Proofs.YtdekehhmjehicaaGreat
/-
  order's shapes, and order.Right.
-/
namespace Go.Proofs.YtdekehhmjehicaaGreat
set_option linter.unusedVariables false
set_option linter.unusedSimpArgs false
open Go.RowKit
def fnV (f : FuncId) : Value := .func (Fn.func f) #[] #[]
def fnP (f : FuncId) (p : Nat) : Value := .func (Fn.func f) #[] #[.pointer (some ⟨p, 0, none⟩)]
def shV (k : Int) (p : Nat) : Value :=
  if k = 1 then .agg #[fnV 84, fnP 85 p]
  else if k = 2 then .agg #[fnV 86, fnV 87]
  else if k = 3 then .agg #[fnV 90, fnP 91 p]
  else if k = 4 then .agg #[fnV 92, fnP 93 p]
  else if k = 5 then .agg #[fnV 95, fnP 96 p]
  else if k = 6 then .agg #[fnV 97, fnV 98]
  else .agg #[fnV 99, nameF]
def shapesD (p : Nat) : DataW Value := .map ([1, 2, 3, 4, 5, 6, 7].map fun (k : Int) => (.int .i64 k, .held (shV k p)))
def ShPost (w : World) (e : Ending) (w' : World) : Prop := ∃ b p n, e = .returned (.map (some b)) ∧ w'.ownsMap Tryz.prog 3 VR b n (shapesD p) ∧ Blk w' p 110 #[nameF] ∧ Mod none_ w w'
set_option maxRecDepth 100000 in
set_option maxHeartbeats 4000000 in
theorem shapes_ok (w : World) : Calls Tryz.prog 74 #[] w (ShPost w) := by
  have hmk := fun W => run_makeMap (P := Tryz.prog) 124 W
  have hmf : ∀ (fn : Fn) (first cap : Array Value) (w : World), (Instr.makeFunc fn first cap).run Tryz.prog w = .ok (.func fn first cap) w := fun _ _ _ _ => rfl
  have hsf : ∀ (a : Addr) (f : Fn) (c p : Array Value) (W : World), (store a (.func f c p)).run Tryz.prog W = stored Tryz.prog W a (.func f c p) .plain := fun a f c p W => run_store Tryz.prog W a _ _ rfl
  have hD := World.ownsMap_made (P := Tryz.prog) (H := Value) (w.alloc (.cells #[.func (Fn.func 82) #[] #[]] 110)) 3 VR
  rw [show (w.alloc (.cells #[.func (Fn.func 82) #[] #[]] 110)).heap.size = w.heap.size + 1 by simp] at hD
  have hB := (Blk.new w 110 #[.func (Fn.func 82) #[] #[]]).alloc (.map #[] 0)
  have hmm := ((Mod.refl none_ w).alloc (.cells #[.func (Fn.func 82) #[] #[]] 110)).alloc (.map #[] 0)
  replace hD := Lib.hid hD
  replace hB := Lib.hid hB
  replace hmm := Lib.hid hmm
  go_enter Tryz.func74, Tryz.ntmps74
  go_upto_region 2 with fail
  go_wp2_with (show wpList _ _ _ (⟨none, _, _, _, _, _⟩ :: _) _ _; go_loud (refine mapF_insert _ rfl (.tmp 2) _ _ _ rfl 3 _ Tryz.underlying124 Tryz.underlying3 (w.heap.size + 1) _ _ rfl hD.out (by simp only [maxLen]; omega) _ (by decide) rfl _ rfl ?_; intro w2 n2 hn2 hD2 hm2 hs2; replace hmm := Lib.hid (hmm.out.then hm2 (fun i hi e => by have e2 : i = w.heap.size + 1 := e; omega)); replace hB := Lib.hid (hB.out.mod hm2 (by simp)); have x0 : w2.cell? ⟨w.heap.size, 0, none⟩ = some (.func (Fn.func 82) #[] #[]) := hB.out.cell_ rfl; replace hD := Lib.hid hD2; clear hD2 hm2 hs2))
  go_ret
  exact ⟨w.heap.size + 1, w.heap.size, _, rfl, hD.out, hB.out, hmm.out⟩
end Go.Proofs.YtdekehhmjehicaaGreat
/-
  order.Right.
-/
namespace Go.Proofs.YtdekehhmjehicaaGreat
set_option linter.unusedVariables false
set_option linter.unusedSimpArgs false
open Go.RowKit
def idB (o : Od) : Bool := decide (0 ≤ o.c ∧ o.c ≤ 9 ∧ 1 ≤ o.s ∧ o.s ≤ 999)
def zSh : Value := .agg #[.nilFunc, .nilFunc]
set_option maxRecDepth 100000 in
theorem zSh_run (W : World) : (zeroValue 122).run Tryz.prog W = .ok zSh W := by rfl
set_option maxRecDepth 100000 in
theorem call_test (args : Array Value) (W : World) : (callFunc 84 args).run Tryz.prog W = .ok (.enter 84 args) W := by rfl
set_option maxRecDepth 100000 in
set_option maxHeartbeats 8000000 in
theorem rightO_gen (w : World) (o : Od) (L : SV) (hO : OdM w o L) (hL : L.n ≤ 140737488355328) (hk : (Lit.int .i64 o.k).wf = true) (fb ff : FuncId) (cap : Nat → Array Value) (b : Od) (Lb : SV) (fit : Bool)
    (hbm : ∀ W, OdM W o L → OdM W b Lb) (hLb : Lb.n ≤ 140737488355328) (hc : b.c = o.c) (hs : b.s = o.s) (hkk : b.k = o.k)
    (hlook : ∀ p, (shapesD p).atKey (.int .i64 o.k) (.held zSh) = .held (.agg #[.func (Fn.func fb) #[] #[], .func (Fn.func ff) #[] (cap p)]))
    (hhas : ∀ p, Maps.has (shapesD p) (.int .i64 o.k) = true)
    (hcb : ∀ (args : Array Value) (W : World), (callFunc fb args).run Tryz.prog W = .ok (.enter fb args) W) (hcf : ∀ (args : Array Value) (W : World), (callFunc ff args).run Tryz.prog W = .ok (.enter ff args) W)
    (hbare : ∀ W, Calls Tryz.prog fb #[.agg #[.int .i64 o.c, .int .i64 o.s, .int .i64 o.k, .string (txt o.acct), .string (txt o.peer), .int .i64 o.sum, .slice L.a L.n L.c, .int .i64 o.per, .int .i64 o.hold, .string (txt o.note)]] W fun e w' => e = .returned (.agg #[.int .i64 0, .int .i64 0, .int .i64 0, .string (txt b.acct), .string (txt b.peer), .int .i64 b.sum, .slice Lb.a Lb.n Lb.c, .int .i64 b.per, .int .i64 b.hold, .string (txt b.note)]) ∧ Mod none_ W w')
    (hfits : ∀ W p, Mod none_ w W → Blk W p 110 #[nameF] → Calls Tryz.prog ff (#[.agg #[.int .i64 o.c, .int .i64 o.s, .int .i64 o.k, .string (txt o.acct), .string (txt o.peer), .int .i64 o.sum, .slice L.a L.n L.c, .int .i64 o.per, .int .i64 o.hold, .string (txt o.note)]] ++ cap p) W fun e w' => e = .returned (.bool fit) ∧ Mod none_ W w') :
    Calls Tryz.prog 63 #[.agg #[.int .i64 o.c, .int .i64 o.s, .int .i64 o.k, .string (txt o.acct), .string (txt o.peer), .int .i64 o.sum, .slice L.a L.n L.c, .int .i64 o.per, .int .i64 o.hold, .string (txt o.note)]] w fun e w' => e = .returned (.bool (idB o && (decide (o = b) && fit))) ∧ Mod none_ w w' := by
  have kS := Lib.hid (fun W => shapes_ok W)
  have hsf : ∀ (a : Addr) (f : Fn) (c p : Array Value) (W : World), (store a (.func f c p)).run Tryz.prog W = stored Tryz.prog W a (.func f c p) .plain := fun a f c p W => run_store Tryz.prog W a _ _ rfl
  have hlk := Lib.hid (fun (W : World) b' n p (h : W.ownsMap Tryz.prog 3 VR b' n (shapesD p)) => mapF_look_run 124 3 _ Tryz.underlying124 Tryz.underlying3 (zSh_run W) b' n _ h o.k hk _ (hlook p) _ (hhas p))
  have hB0 := (Blk.new w 41 #[.int .i64 o.c, .int .i64 o.s, .int .i64 o.k, .string (txt o.acct), .string (txt o.peer), .int .i64 o.sum, .slice L.a L.n L.c, .int .i64 o.per, .int .i64 o.hold, .string (txt o.note)]).drew
  have hm0 := ((Mod.refl none_ w).alloc (.cells #[.int .i64 o.c, .int .i64 o.s, .int .i64 o.k, .string (txt o.acct), .string (txt o.peer), .int .i64 o.sum, .slice L.a L.n L.c, .int .i64 o.per, .int .i64 o.hold, .string (txt o.note)] 41)).drew
  have hBa := ((Blk.new w 41 #[.int .i64 o.c, .int .i64 o.s, .int .i64 o.k, .string (txt o.acct), .string (txt o.peer), .int .i64 o.sum, .slice L.a L.n L.c, .int .i64 o.per, .int .i64 o.hold, .string (txt o.note)]).alloc (.cells #[.nilFunc, .nilFunc] 122)).drew
  have hma := (((Mod.refl none_ w).alloc (.cells #[.int .i64 o.c, .int .i64 o.s, .int .i64 o.k, .string (txt o.acct), .string (txt o.peer), .int .i64 o.sum, .slice L.a L.n L.c, .int .i64 o.per, .int .i64 o.hold, .string (txt o.note)] 41)).alloc (.cells #[.nilFunc, .nilFunc] 122)).drew
  have hSa : Blk ((w.alloc (.cells #[.int .i64 o.c, .int .i64 o.s, .int .i64 o.k, .string (txt o.acct), .string (txt o.peer), .int .i64 o.sum, .slice L.a L.n L.c, .int .i64 o.per, .int .i64 o.hold, .string (txt o.note)] 41)).alloc (.cells #[.nilFunc, .nilFunc] 122)).drew (w.heap.size + 1) 122 #[.nilFunc, .nilFunc] := heap_alloc2_new w _ _
  replace hBa := Lib.hid hBa
  replace hma := Lib.hid hma
  replace hSa := Lib.hid hSa
  replace hO := Lib.hid hO
  replace hlook := Lib.hid hlook
  replace hhas := Lib.hid hhas
  replace hbare := Lib.hid hbare
  replace hfits := Lib.hid hfits
  replace hbm := Lib.hid hbm
  replace hB0 := Lib.hid hB0
  replace hm0 := Lib.hid hm0
  replace hk := Lib.hid hk
  go_enter Tryz.func63, Tryz.ntmps63
  go_upto_region 1 with fail
  go_cut [3, 4] from 3 to 12 (fun s3 s4 W => ∃ sp p, s3 = .pointer (some ⟨sp, 0, none⟩) ∧ s4 = .bool true ∧ Mod none_ w W ∧ Blk W w.heap.size 41 #[.int .i64 o.c, .int .i64 o.s, .int .i64 o.k, .string (txt o.acct), .string (txt o.peer), .int .i64 o.sum, .slice L.a L.n L.c, .int .i64 o.per, .int .i64 o.hold, .string (txt o.note)] ∧ Blk W p 110 #[nameF] ∧ Blk W sp 122 #[.func (Fn.func fb) #[] #[], .func (Fn.func ff) #[] (cap p)])
  case first =>
    go_region_held3 (fun W => W.cell? ⟨w.heap.size, 2, none⟩ = some (.int .i64 o.k)) (first | exact hB0.out.cell_ rfl | exact hBa.out.cell_ rfl | exact hB1.out.cell_ rfl | exact (hB1.out.alloc _).cell_ rfl | exact ((hB1.out.far (by simp) _).far (by simp) _).cell_ rfl | go_keep)
      (first | (go_at_call 74; refine (kS.out _).mono ?_; rintro e w1 ⟨b', p, n, rfl, hD, hN, hm1⟩; have e1 := hlk.out _ _ _ _ hD; have e2 := fun o => hlk.out _ _ _ _ (hD.alloc o); (first | (have hB1 := Lib.hid (hB0.out.mod hm1 (fun h => h)); have hmm := Lib.hid (hm0.out.trans hm1)) | (have hB1 := Lib.hid (hBa.out.mod hm1 (fun h => h)); have hmm := Lib.hid (hma.out.trans hm1); have hS1 := (hSa.out.mod hm1 (fun h => h)); have s0 : w1.cell? ⟨w.heap.size + 1, 0, none⟩ = some .nilFunc := hS1.cell_ rfl; have s1 : w1.cell? ⟨w.heap.size + 1, 1, none⟩ = some .nilFunc := hS1.cell_ rfl; have f0 := hS1.frozen 0; have f1 := hS1.frozen 1; replace hS1 := Lib.hid hS1)); replace hN := Lib.hid hN; clear hm1 hD))
    all_goals
      go_wp2
      go_meet
      first
        | exact ⟨_, p, rfl, rfl, hmm.out.alloc _, hB1.out.alloc _, hN.out.alloc _, Blk.new _ _ _⟩
        | exact ⟨_, p, rfl, rfl, (hmm.out.setCell (p := ⟨w.heap.size + 1, 0, none⟩) (.inr (Nat.le_succ _)) _).setCell (p := ⟨w.heap.size + 1, 1, none⟩) (.inr (Nat.le_succ _)) _, (hB1.out.far (by simp) _).far (by simp) _, (hN.out.far (hN.out.ne_ hS1.out (by decide)) _).far (hN.out.ne_ hS1.out (by decide)) _, (hS1.out.set_ 0 _).set_ 1 _⟩
  case rest =>
    obtain ⟨sp, p, rfl, rfl, hm, hB, hN, hS⟩ := hcut
    have q0 : wc.cell? ⟨w.heap.size, 0, none⟩ = some (.int .i64 o.c) := hB.cell_ rfl
    have q1 : wc.cell? ⟨w.heap.size, 1, none⟩ = some (.int .i64 o.s) := hB.cell_ rfl
    have q2 : wc.cell? ⟨w.heap.size, 2, none⟩ = some (.int .i64 o.k) := hB.cell_ rfl
    have q3 : wc.cell? ⟨w.heap.size, 3, none⟩ = some (.string (txt o.acct)) := hB.cell_ rfl
    have q4 : wc.cell? ⟨w.heap.size, 4, none⟩ = some (.string (txt o.peer)) := hB.cell_ rfl
    have q5 : wc.cell? ⟨w.heap.size, 5, none⟩ = some (.int .i64 o.sum) := hB.cell_ rfl
    have q6 : wc.cell? ⟨w.heap.size, 6, none⟩ = some (.slice L.a L.n L.c) := hB.cell_ rfl
    have q7 : wc.cell? ⟨w.heap.size, 7, none⟩ = some (.int .i64 o.per) := hB.cell_ rfl
    have q8 : wc.cell? ⟨w.heap.size, 8, none⟩ = some (.int .i64 o.hold) := hB.cell_ rfl
    have q9 : wc.cell? ⟨w.heap.size, 9, none⟩ = some (.string (txt o.note)) := hB.cell_ rfl
    have s0 : wc.cell? ⟨sp, 0, none⟩ = some (.func (Fn.func fb) #[] #[]) := hS.cell_ rfl
    replace hm := Lib.hid hm
    replace hB := Lib.hid hB
    replace hN := Lib.hid hN
    replace hS := Lib.hid hS
    by_cases hid : 0 ≤ o.c ∧ o.c ≤ 9 ∧ 1 ≤ o.s ∧ o.s ≤ 999
    · have hidB : Hid (idB o = true) := Lib.hid (decide_eq_true hid)
      have d1 : ¬ o.c < 0 := by omega
      have d2 : ¬ 9 < o.c := by omega
      have d3 : ¬ o.s < 1 := by omega
      have d4 : ¬ 999 < o.s := by omega
      replace hid := Lib.hid hid
      go_wp2_with fail
      with_reducible refine (hbare.out _).mono ?_
      rintro e w2 ⟨rfl, hm2⟩
      dsimp only
      have hm3 := Lib.hid (hm.out.trans hm2)
      have hB3 := hB.out.mod hm2 (fun h => h)
      have r0 : w2.cell? ⟨w.heap.size, 0, none⟩ = some (.int .i64 o.c) := hB3.cell_ rfl
      have r1 : w2.cell? ⟨w.heap.size, 1, none⟩ = some (.int .i64 o.s) := hB3.cell_ rfl
      have r2 : w2.cell? ⟨w.heap.size, 2, none⟩ = some (.int .i64 o.k) := hB3.cell_ rfl
      have hlt := hB3.lt
      replace hB3 := Lib.hid hB3
      have hN3 := Lib.hid (hN.out.mod hm2 (fun h => h))
      have hS3 := Lib.hid (hS.out.mod hm2 (fun h => h))
      clear hm2 q0 q1 q2 q3 q4 q5 q6 q7 q8 q9 s0
      go_upto_region 5 with fail
      go_cut [5] from 5 to 48 (fun s5 W => ∃ bp, s5 = .pointer (some ⟨bp, 0, none⟩) ∧ Mod none_ w W ∧ Blk W w.heap.size 41 #[.int .i64 o.c, .int .i64 o.s, .int .i64 o.k, .string (txt o.acct), .string (txt o.peer), .int .i64 o.sum, .slice L.a L.n L.c, .int .i64 o.per, .int .i64 o.hold, .string (txt o.note)] ∧ Blk W p 110 #[nameF] ∧ Blk W sp 122 #[.func (Fn.func fb) #[] #[], .func (Fn.func ff) #[] (cap p)] ∧ Blk W bp 41 #[.int .i64 o.c, .int .i64 o.s, .int .i64 o.k, .string (txt b.acct), .string (txt b.peer), .int .i64 b.sum, .slice Lb.a Lb.n Lb.c, .int .i64 b.per, .int .i64 b.hold, .string (txt b.note)])
      case first =>
        go_region
        go_wp2
        go_meet
        exact ⟨w2.heap.size, rfl, (hm3.out.alloc _).drew, (hB3.out.alloc _).drew, (hN3.out.alloc _).drew, (hS3.out.alloc _).drew, (Blk.new _ _ _).drew⟩
      case rest =>
        obtain ⟨bp, rfl, hm4, hB4, hN4, hS4, hC4⟩ := hcut
        have q0 : wc.cell? ⟨w.heap.size, 0, none⟩ = some (.int .i64 o.c) := hB4.cell_ rfl
        have q1 : wc.cell? ⟨w.heap.size, 1, none⟩ = some (.int .i64 o.s) := hB4.cell_ rfl
        have q2 : wc.cell? ⟨w.heap.size, 2, none⟩ = some (.int .i64 o.k) := hB4.cell_ rfl
        have q3 : wc.cell? ⟨w.heap.size, 3, none⟩ = some (.string (txt o.acct)) := hB4.cell_ rfl
        have q4 : wc.cell? ⟨w.heap.size, 4, none⟩ = some (.string (txt o.peer)) := hB4.cell_ rfl
        have q5 : wc.cell? ⟨w.heap.size, 5, none⟩ = some (.int .i64 o.sum) := hB4.cell_ rfl
        have q6 : wc.cell? ⟨w.heap.size, 6, none⟩ = some (.slice L.a L.n L.c) := hB4.cell_ rfl
        have q7 : wc.cell? ⟨w.heap.size, 7, none⟩ = some (.int .i64 o.per) := hB4.cell_ rfl
        have q8 : wc.cell? ⟨w.heap.size, 8, none⟩ = some (.int .i64 o.hold) := hB4.cell_ rfl
        have q9 : wc.cell? ⟨w.heap.size, 9, none⟩ = some (.string (txt o.note)) := hB4.cell_ rfl
        have c0 : wc.cell? ⟨bp, 0, none⟩ = some (.int .i64 o.c) := hC4.cell_ rfl
        have c1 : wc.cell? ⟨bp, 1, none⟩ = some (.int .i64 o.s) := hC4.cell_ rfl
        have c2 : wc.cell? ⟨bp, 2, none⟩ = some (.int .i64 o.k) := hC4.cell_ rfl
        have c3 : wc.cell? ⟨bp, 3, none⟩ = some (.string (txt b.acct)) := hC4.cell_ rfl
        have c4 : wc.cell? ⟨bp, 4, none⟩ = some (.string (txt b.peer)) := hC4.cell_ rfl
        have c5 : wc.cell? ⟨bp, 5, none⟩ = some (.int .i64 b.sum) := hC4.cell_ rfl
        have c6 : wc.cell? ⟨bp, 6, none⟩ = some (.slice Lb.a Lb.n Lb.c) := hC4.cell_ rfl
        have c7 : wc.cell? ⟨bp, 7, none⟩ = some (.int .i64 b.per) := hC4.cell_ rfl
        have c8 : wc.cell? ⟨bp, 8, none⟩ = some (.int .i64 b.hold) := hC4.cell_ rfl
        have c9 : wc.cell? ⟨bp, 9, none⟩ = some (.string (txt b.note)) := hC4.cell_ rfl
        have kE := sameO_ok wc o b L Lb (hO.out.mod0 hm4) (hbm.out _ (hO.out.mod0 hm4)) hL hLb
        rw [hc, hs, hkk] at kE
        replace hm4 := Lib.hid hm4
        replace hB4 := Lib.hid hB4
        replace hN4 := Lib.hid hN4
        replace hS4 := Lib.hid hS4
        replace hC4 := Lib.hid hC4
        replace kE := Lib.hid kE
        go_wp2_with fail
        with_reducible refine kE.out.mono ?_
        rintro e w3 ⟨rfl, hm5⟩
        dsimp only
        have hm6 := hm4.out.trans hm5
        have hB5 := hB4.out.mod hm5 (fun h => h)
        have hN5 := hN4.out.mod hm5 (fun h => h)
        have hS5 := hS4.out.mod hm5 (fun h => h)
        have d0 : w3.cell? ⟨w.heap.size, 0, none⟩ = some (.int .i64 o.c) := hB5.cell_ rfl
        have d1 : w3.cell? ⟨w.heap.size, 1, none⟩ = some (.int .i64 o.s) := hB5.cell_ rfl
        have d2 : w3.cell? ⟨w.heap.size, 2, none⟩ = some (.int .i64 o.k) := hB5.cell_ rfl
        have d3 : w3.cell? ⟨w.heap.size, 3, none⟩ = some (.string (txt o.acct)) := hB5.cell_ rfl
        have d4 : w3.cell? ⟨w.heap.size, 4, none⟩ = some (.string (txt o.peer)) := hB5.cell_ rfl
        have d5 : w3.cell? ⟨w.heap.size, 5, none⟩ = some (.int .i64 o.sum) := hB5.cell_ rfl
        have d6 : w3.cell? ⟨w.heap.size, 6, none⟩ = some (.slice L.a L.n L.c) := hB5.cell_ rfl
        have d7 : w3.cell? ⟨w.heap.size, 7, none⟩ = some (.int .i64 o.per) := hB5.cell_ rfl
        have d8 : w3.cell? ⟨w.heap.size, 8, none⟩ = some (.int .i64 o.hold) := hB5.cell_ rfl
        have d9 : w3.cell? ⟨w.heap.size, 9, none⟩ = some (.string (txt o.note)) := hB5.cell_ rfl
        have s1 : w3.cell? ⟨sp, 1, none⟩ = some (.func (Fn.func ff) #[] (cap p)) := hS5.cell_ rfl
        have kF := Lib.hid (hfits.out w3 p hm6 hN5)
        replace hm6 := Lib.hid hm6
        replace hB5 := Lib.hid hB5
        replace hN5 := Lib.hid hN5
        replace hS5 := Lib.hid hS5
        clear hm5
        by_cases hob : o = b
        · rw [decide_eq_true hob]
          replace hob := Lib.hid hob
          go_wp2_with fail
          with_reducible refine kF.out.mono ?_
          rintro e w4 ⟨rfl, hm7⟩
          dsimp only
          have hm8 := Lib.hid (hm6.out.trans hm7)
          replace hm7 := Lib.hid hm7
          go_wp2_with fail
          go_ret
          exact ⟨by rw [hidB.out, decide_eq_true hob.out]; rfl, hm8.out⟩
        · rw [decide_eq_false hob]
          replace hob := Lib.hid hob
          go_wp2_with fail
          go_ret
          exact ⟨by rw [hidB.out, decide_eq_false hob.out]; rfl, hm6.out⟩
    · have hidB : Hid (idB o = false) := Lib.hid (decide_eq_false hid)
      go_wp2_with fail
      all_goals
        first
          | (go_ret; exact ⟨by rw [hidB.out]; rfl, hm.out⟩)
          | (exfalso; omega)
end Go.Proofs.YtdekehhmjehicaaGreat
/-
  order.Right, whole.
-/
namespace Go.Proofs.YtdekehhmjehicaaGreat
set_option linter.unusedVariables false
set_option linter.unusedSimpArgs false
open Go.RowKit
set_option maxRecDepth 100000 in
set_option maxHeartbeats 8000000 in
theorem rightO_no (w : World) (o : Od) (L : SV) (hk : (Lit.int .i64 o.k).wf = true)
    (hlook : ∀ p, (shapesD p).atKey (.int .i64 o.k) (.held zSh) = .held (.agg #[.nilFunc, .nilFunc]))
    (hhas : ∀ p, Maps.has (shapesD p) (.int .i64 o.k) = false) :
    Calls Tryz.prog 63 #[.agg #[.int .i64 o.c, .int .i64 o.s, .int .i64 o.k, .string (txt o.acct), .string (txt o.peer), .int .i64 o.sum, .slice L.a L.n L.c, .int .i64 o.per, .int .i64 o.hold, .string (txt o.note)]] w fun e w' => e = .returned (.bool false) ∧ Mod none_ w w' := by
  have kS := Lib.hid (fun W => shapes_ok W)
  have hsf : ∀ (a : Addr) (f : Fn) (c p : Array Value) (W : World), (store a (.func f c p)).run Tryz.prog W = stored Tryz.prog W a (.func f c p) .plain := fun a f c p W => run_store Tryz.prog W a _ _ rfl
  have hsn : ∀ (a : Addr) (W : World), (store a .nilFunc).run Tryz.prog W = stored Tryz.prog W a .nilFunc .plain := fun a W => run_store Tryz.prog W a _ _ rfl
  have hlk := Lib.hid (fun (W : World) b' n p (h : W.ownsMap Tryz.prog 3 VR b' n (shapesD p)) => mapF_look_run 124 3 _ Tryz.underlying124 Tryz.underlying3 (zSh_run W) b' n _ h o.k hk _ (hlook p) _ (hhas p))
  have hB0 := (Blk.new w 41 #[.int .i64 o.c, .int .i64 o.s, .int .i64 o.k, .string (txt o.acct), .string (txt o.peer), .int .i64 o.sum, .slice L.a L.n L.c, .int .i64 o.per, .int .i64 o.hold, .string (txt o.note)]).drew
  have hm0 := ((Mod.refl none_ w).alloc (.cells #[.int .i64 o.c, .int .i64 o.s, .int .i64 o.k, .string (txt o.acct), .string (txt o.peer), .int .i64 o.sum, .slice L.a L.n L.c, .int .i64 o.per, .int .i64 o.hold, .string (txt o.note)] 41)).drew
  have hBa := ((Blk.new w 41 #[.int .i64 o.c, .int .i64 o.s, .int .i64 o.k, .string (txt o.acct), .string (txt o.peer), .int .i64 o.sum, .slice L.a L.n L.c, .int .i64 o.per, .int .i64 o.hold, .string (txt o.note)]).alloc (.cells #[.nilFunc, .nilFunc] 122)).drew
  have hma := (((Mod.refl none_ w).alloc (.cells #[.int .i64 o.c, .int .i64 o.s, .int .i64 o.k, .string (txt o.acct), .string (txt o.peer), .int .i64 o.sum, .slice L.a L.n L.c, .int .i64 o.per, .int .i64 o.hold, .string (txt o.note)] 41)).alloc (.cells #[.nilFunc, .nilFunc] 122)).drew
  have hSa : Blk ((w.alloc (.cells #[.int .i64 o.c, .int .i64 o.s, .int .i64 o.k, .string (txt o.acct), .string (txt o.peer), .int .i64 o.sum, .slice L.a L.n L.c, .int .i64 o.per, .int .i64 o.hold, .string (txt o.note)] 41)).alloc (.cells #[.nilFunc, .nilFunc] 122)).drew (w.heap.size + 1) 122 #[.nilFunc, .nilFunc] := heap_alloc2_new w _ _
  replace hBa := Lib.hid hBa
  replace hma := Lib.hid hma
  replace hSa := Lib.hid hSa
  replace hlook := Lib.hid hlook
  replace hhas := Lib.hid hhas
  replace hB0 := Lib.hid hB0
  replace hm0 := Lib.hid hm0
  replace hk := Lib.hid hk
  go_enter Tryz.func63, Tryz.ntmps63
  go_upto_region 1 with fail
  go_cut [3, 4] from 3 to 12 (fun s3 s4 W => ∃ sp p : Nat, s3 = .pointer (some ⟨sp, 0, none⟩) ∧ s4 = .bool false ∧ Mod none_ w W ∧ Blk W w.heap.size 41 #[.int .i64 o.c, .int .i64 o.s, .int .i64 o.k, .string (txt o.acct), .string (txt o.peer), .int .i64 o.sum, .slice L.a L.n L.c, .int .i64 o.per, .int .i64 o.hold, .string (txt o.note)] ∧ Blk W p 110 #[nameF] ∧ Blk W sp 122 #[.nilFunc, .nilFunc])
  case first =>
    go_region_held3 (fun W => W.cell? ⟨w.heap.size, 2, none⟩ = some (.int .i64 o.k)) (first | exact hB0.out.cell_ rfl | exact hBa.out.cell_ rfl | exact hB1.out.cell_ rfl | exact (hB1.out.alloc _).cell_ rfl | exact ((hB1.out.far (by simp) _).far (by simp) _).cell_ rfl | go_keep)
      (first | (go_at_call 74; refine (kS.out _).mono ?_; rintro e w1 ⟨b', p, n, rfl, hD, hN, hm1⟩; have e1 := hlk.out _ _ _ _ hD; have e2 := fun o => hlk.out _ _ _ _ (hD.alloc o); (first | (have hB1 := Lib.hid (hB0.out.mod hm1 (fun h => h)); have hmm := Lib.hid (hm0.out.trans hm1)) | (have hB1 := Lib.hid (hBa.out.mod hm1 (fun h => h)); have hmm := Lib.hid (hma.out.trans hm1); have hS1 := (hSa.out.mod hm1 (fun h => h)); have s0 : w1.cell? ⟨w.heap.size + 1, 0, none⟩ = some .nilFunc := hS1.cell_ rfl; have s1 : w1.cell? ⟨w.heap.size + 1, 1, none⟩ = some .nilFunc := hS1.cell_ rfl; have f0 := hS1.frozen 0; have f1 := hS1.frozen 1; replace hS1 := Lib.hid hS1)); replace hN := Lib.hid hN; clear hm1 hD))
    all_goals
      go_wp2
      go_meet
      first
        | exact ⟨_, p, rfl, rfl, hmm.out.alloc _, hB1.out.alloc _, hN.out.alloc _, Blk.new _ _ _⟩
        | exact ⟨_, p, rfl, rfl, (hmm.out.setCell (p := ⟨w.heap.size + 1, 0, none⟩) (.inr (Nat.le_succ _)) _).setCell (p := ⟨w.heap.size + 1, 1, none⟩) (.inr (Nat.le_succ _)) _, (hB1.out.far (by simp) _).far (by simp) _, (hN.out.far (hN.out.ne_ hS1.out (by decide)) _).far (hN.out.ne_ hS1.out (by decide)) _, (hS1.out.set_ 0 _).set_ 1 _⟩
  case rest =>
    obtain ⟨sp, p, rfl, rfl, hm, hB, hN, hS⟩ := hcut
    replace hm := Lib.hid hm
    replace hB := Lib.hid hB
    replace hN := Lib.hid hN
    replace hS := Lib.hid hS
    go_wp2_with fail
    go_ret
    exact ⟨rfl, hm.out⟩
def fits7 (o : Od) : Bool := nameB o.acct
def kindB (o : Od) : Bool :=
  if o.k = 1 then decide (o = bare1 o) && fits1 o
  else if o.k = 2 then decide (o = bare2 o) && fits2 o
  else if o.k = 3 then decide (o = bare3 o) && fits3 o
  else if o.k = 4 then decide (o = bare4 o) && fits4 o
  else if o.k = 5 then decide (o = bare5 o) && fits5 o
  else if o.k = 6 then decide (o = bare6 o) && fits6 o
  else if o.k = 7 then decide (o = bare7 o) && fits7 o
  else false
def rightO (o : Od) : Bool := idB o && kindB o
set_option maxRecDepth 100000 in
theorem rightO_1 (w : World) (o : Od) (L : SV) (hO : OdM w o L) (hL : L.n ≤ 140737488355328) (hk : o.k = 1) (hz : ∀ l ∈ o.legs, (txt l.n).size ≤ maxLen) :
    Calls Tryz.prog 63 #[.agg #[.int .i64 o.c, .int .i64 o.s, .int .i64 o.k, .string (txt o.acct), .string (txt o.peer), .int .i64 o.sum, .slice L.a L.n L.c, .int .i64 o.per, .int .i64 o.hold, .string (txt o.note)]] w fun e w' => e = .returned (.bool (idB o && (decide (o = bare1 o) && fits1 o))) ∧ Mod none_ w w' :=
  rightO_gen w o L hO hL (by rw [hk]; decide) 84 85 (fun p => #[.pointer (some ⟨p, 0, none⟩)]) (bare1 o) ⟨none, 0, 0⟩ (fits1 o) (fun W _ => ⟨Rd.none_, Nat.le_refl _⟩) (by decide) rfl rfl rfl
    (fun p => by rw [hk]; rfl) (fun p => by rw [hk]; rfl) (fun _ _ => rfl) (fun _ _ => rfl) (fun W => bare1_ok W o L) (fun W p h hp => fits1_ok W p hp o L (hO.mod0 h) hL hz)
set_option maxRecDepth 100000 in
theorem rightO_2 (w : World) (o : Od) (L : SV) (hO : OdM w o L) (hL : L.n ≤ 140737488355328) (hk : o.k = 2) (hz : ∀ l ∈ o.legs, (txt l.n).size ≤ maxLen) :
    Calls Tryz.prog 63 #[.agg #[.int .i64 o.c, .int .i64 o.s, .int .i64 o.k, .string (txt o.acct), .string (txt o.peer), .int .i64 o.sum, .slice L.a L.n L.c, .int .i64 o.per, .int .i64 o.hold, .string (txt o.note)]] w fun e w' => e = .returned (.bool (idB o && (decide (o = bare2 o) && fits2 o))) ∧ Mod none_ w w' :=
  rightO_gen w o L hO hL (by rw [hk]; decide) 86 87 (fun _ => #[]) (bare2 o) ⟨L.a, L.n, L.c⟩ (fits2 o) (fun W h => ⟨h.rd, h.cap⟩) (hL) rfl rfl rfl
    (fun p => by rw [hk]; rfl) (fun p => by rw [hk]; rfl) (fun _ _ => rfl) (fun _ _ => rfl) (fun W => bare2_ok W o L) (fun W p h _ => by have := fits2_ok W o L (hO.mod0 h) hL hz; simpa using this)
set_option maxRecDepth 100000 in
theorem rightO_3 (w : World) (o : Od) (L : SV) (hO : OdM w o L) (hL : L.n ≤ 140737488355328) (hk : o.k = 3) (hz : ∀ l ∈ o.legs, (txt l.n).size ≤ maxLen) :
    Calls Tryz.prog 63 #[.agg #[.int .i64 o.c, .int .i64 o.s, .int .i64 o.k, .string (txt o.acct), .string (txt o.peer), .int .i64 o.sum, .slice L.a L.n L.c, .int .i64 o.per, .int .i64 o.hold, .string (txt o.note)]] w fun e w' => e = .returned (.bool (idB o && (decide (o = bare3 o) && fits3 o))) ∧ Mod none_ w w' :=
  rightO_gen w o L hO hL (by rw [hk]; decide) 90 91 (fun p => #[.pointer (some ⟨p, 0, none⟩)]) (bare3 o) ⟨none, 0, 0⟩ (fits3 o) (fun W _ => ⟨Rd.none_, Nat.le_refl _⟩) (by decide) rfl rfl rfl
    (fun p => by rw [hk]; rfl) (fun p => by rw [hk]; rfl) (fun _ _ => rfl) (fun _ _ => rfl) (fun W => bare3_ok W o L) (fun W p h hp => fits3_ok W p hp o L (hO.mod0 h) hL hz)
set_option maxRecDepth 100000 in
theorem rightO_4 (w : World) (o : Od) (L : SV) (hO : OdM w o L) (hL : L.n ≤ 140737488355328) (hk : o.k = 4) (hz : ∀ l ∈ o.legs, (txt l.n).size ≤ maxLen) :
    Calls Tryz.prog 63 #[.agg #[.int .i64 o.c, .int .i64 o.s, .int .i64 o.k, .string (txt o.acct), .string (txt o.peer), .int .i64 o.sum, .slice L.a L.n L.c, .int .i64 o.per, .int .i64 o.hold, .string (txt o.note)]] w fun e w' => e = .returned (.bool (idB o && (decide (o = bare4 o) && fits4 o))) ∧ Mod none_ w w' :=
  rightO_gen w o L hO hL (by rw [hk]; decide) 92 93 (fun p => #[.pointer (some ⟨p, 0, none⟩)]) (bare4 o) ⟨none, 0, 0⟩ (fits4 o) (fun W _ => ⟨Rd.none_, Nat.le_refl _⟩) (by decide) rfl rfl rfl
    (fun p => by rw [hk]; rfl) (fun p => by rw [hk]; rfl) (fun _ _ => rfl) (fun _ _ => rfl) (fun W => bare4_ok W o L) (fun W p h hp => fits4_ok W p hp o L (hO.mod0 h) hL hz)
set_option maxRecDepth 100000 in
theorem rightO_5 (w : World) (o : Od) (L : SV) (hO : OdM w o L) (hL : L.n ≤ 140737488355328) (hk : o.k = 5) (hz : ∀ l ∈ o.legs, (txt l.n).size ≤ maxLen) :
    Calls Tryz.prog 63 #[.agg #[.int .i64 o.c, .int .i64 o.s, .int .i64 o.k, .string (txt o.acct), .string (txt o.peer), .int .i64 o.sum, .slice L.a L.n L.c, .int .i64 o.per, .int .i64 o.hold, .string (txt o.note)]] w fun e w' => e = .returned (.bool (idB o && (decide (o = bare5 o) && fits5 o))) ∧ Mod none_ w w' :=
  rightO_gen w o L hO hL (by rw [hk]; decide) 95 96 (fun p => #[.pointer (some ⟨p, 0, none⟩)]) (bare5 o) ⟨none, 0, 0⟩ (fits5 o) (fun W _ => ⟨Rd.none_, Nat.le_refl _⟩) (by decide) rfl rfl rfl
    (fun p => by rw [hk]; rfl) (fun p => by rw [hk]; rfl) (fun _ _ => rfl) (fun _ _ => rfl) (fun W => bare5_ok W o L) (fun W p h hp => fits5_ok W p hp o L (hO.mod0 h) hL hz)
set_option maxRecDepth 100000 in
theorem rightO_6 (w : World) (o : Od) (L : SV) (hO : OdM w o L) (hL : L.n ≤ 140737488355328) (hk : o.k = 6) (hz : ∀ l ∈ o.legs, (txt l.n).size ≤ maxLen) :
    Calls Tryz.prog 63 #[.agg #[.int .i64 o.c, .int .i64 o.s, .int .i64 o.k, .string (txt o.acct), .string (txt o.peer), .int .i64 o.sum, .slice L.a L.n L.c, .int .i64 o.per, .int .i64 o.hold, .string (txt o.note)]] w fun e w' => e = .returned (.bool (idB o && (decide (o = bare6 o) && fits6 o))) ∧ Mod none_ w w' :=
  rightO_gen w o L hO hL (by rw [hk]; decide) 97 98 (fun _ => #[]) (bare6 o) ⟨none, 0, 0⟩ (fits6 o) (fun W _ => ⟨Rd.none_, Nat.le_refl _⟩) (by decide) rfl rfl rfl
    (fun p => by rw [hk]; rfl) (fun p => by rw [hk]; rfl) (fun _ _ => rfl) (fun _ _ => rfl) (fun W => bare6_ok W o L) (fun W p h _ => by have := fits6_ok W o L (hO.mod0 h) hL hz; simpa using this)
set_option maxRecDepth 100000 in
theorem rightO_7 (w : World) (o : Od) (L : SV) (hO : OdM w o L) (hL : L.n ≤ 140737488355328) (hk : o.k = 7) (hz : ∀ l ∈ o.legs, (txt l.n).size ≤ maxLen) :
    Calls Tryz.prog 63 #[.agg #[.int .i64 o.c, .int .i64 o.s, .int .i64 o.k, .string (txt o.acct), .string (txt o.peer), .int .i64 o.sum, .slice L.a L.n L.c, .int .i64 o.per, .int .i64 o.hold, .string (txt o.note)]] w fun e w' => e = .returned (.bool (idB o && (decide (o = bare7 o) && fits7 o))) ∧ Mod none_ w w' :=
  rightO_gen w o L hO hL (by rw [hk]; decide) 99 82 (fun _ => #[]) (bare7 o) ⟨none, 0, 0⟩ (fits7 o) (fun W _ => ⟨Rd.none_, Nat.le_refl _⟩) (by decide) rfl rfl rfl
    (fun p => by rw [hk]; rfl) (fun p => by rw [hk]; rfl) (fun _ _ => rfl) (fun _ _ => rfl) (fun W => bare7_ok W o L) (fun W p _ _ => by have := name1_ok W o L; simpa [fits7] using this)
set_option maxRecDepth 100000 in
set_option maxHeartbeats 2000000 in
theorem rightO_ok (w : World) (o : Od) (L : SV) (hO : OdM w o L) (hL : L.n ≤ 140737488355328) (hk : (Lit.int .i64 o.k).wf = true) (hz : ∀ l ∈ o.legs, (txt l.n).size ≤ maxLen) :
    Calls Tryz.prog 63 #[.agg #[.int .i64 o.c, .int .i64 o.s, .int .i64 o.k, .string (txt o.acct), .string (txt o.peer), .int .i64 o.sum, .slice L.a L.n L.c, .int .i64 o.per, .int .i64 o.hold, .string (txt o.note)]] w fun e w' => e = .returned (.bool (rightO o)) ∧ Mod none_ w w' := by
  unfold rightO kindB
  by_cases h1 : o.k = 1
  · rw [if_pos h1]; exact rightO_1 w o L hO hL h1 hz
  rw [if_neg h1]
  by_cases h2 : o.k = 2
  · rw [if_pos h2]; exact rightO_2 w o L hO hL h2 hz
  rw [if_neg h2]
  by_cases h3 : o.k = 3
  · rw [if_pos h3]; exact rightO_3 w o L hO hL h3 hz
  rw [if_neg h3]
  by_cases h4 : o.k = 4
  · rw [if_pos h4]; exact rightO_4 w o L hO hL h4 hz
  rw [if_neg h4]
  by_cases h5 : o.k = 5
  · rw [if_pos h5]; exact rightO_5 w o L hO hL h5 hz
  rw [if_neg h5]
  by_cases h6 : o.k = 6
  · rw [if_pos h6]; exact rightO_6 w o L hO hL h6 hz
  rw [if_neg h6]
  by_cases h7 : o.k = 7
  · rw [if_pos h7]; exact rightO_7 w o L hO hL h7 hz
  rw [if_neg h7]
  rw [Bool.and_false]
  have hs : ∀ n : Int, ¬ o.k = n → ¬ n = o.k := fun n h e => h e.symm
  exact rightO_no w o L hk (fun p => by simp [shapesD, DataW.atKey, Lit.sameKey, hs _ h1, hs _ h2, hs _ h3, hs _ h4, hs _ h5, hs _ h6, hs _ h7, zSh]) (fun p => by simp [shapesD, Maps.has, Lit.sameKey, hs _ h1, hs _ h2, hs _ h3, hs _ h4, hs _ h5, hs _ h6, hs _ h7])
end Go.Proofs.YtdekehhmjehicaaGreat
/-
  The references' Same, of what is the same. No condition.
-/
namespace Go.Proofs.YtdekehhmjehicaaGreat
set_option linter.unusedVariables false
set_option linter.unusedSimpArgs false
open Go.RowKit
theorem neq_id (W : World) (x y : Is) : (binOp .neq 38 (isV x) (isV y)).run Tryz.prog W = .ok (.bool (!decide (x = y))) W := by
  have := eqIn_id W x y
  unfold isV at *
  rw [run_neq_struct, this]; rfl
set_option maxRecDepth 100000 in
set_option maxHeartbeats 4000000 in
theorem same6_eq (w : World) (a : Od) (L M : SV) (ha : OdM w a L) (hb : OdM w a M) (hL : L.n ≤ 140737488355328) :
    Calls Tryz.prog 49 #[.agg #[.int .i64 a.c, .int .i64 a.s, .int .i64 a.k, .string (txt a.acct), .string (txt a.peer), .int .i64 a.sum, .slice L.a L.n L.c, .int .i64 a.per, .int .i64 a.hold, .string (txt a.note)], .agg #[.int .i64 a.c, .int .i64 a.s, .int .i64 a.k, .string (txt a.acct), .string (txt a.peer), .int .i64 a.sum, .slice M.a M.n M.c, .int .i64 a.per, .int .i64 a.hold, .string (txt a.note)]] w fun e w' => e = .returned (.bool true) ∧ Mod none_ w w' := by
  have hid := fun W => neq_id W ⟨a.c, a.s⟩ ⟨a.c, a.s⟩
  unfold isV at hid
  simp only [decide_true, Bool.not_true] at hid
  have hLM : L.n = M.n := by have h1 := ha.rd.len; have h2 := hb.rd.len; omega
  have hz : ((L.n : Int) != (L.n : Int)) = false := by simp
  rw [← hLM]
  have hm0 := ((Mod.refl none_ w).alloc (.cells #[.int .i64 a.c, .int .i64 a.s, .int .i64 a.k, .string (txt a.acct), .string (txt a.peer), .int .i64 a.sum, .slice L.a L.n L.c, .int .i64 a.per, .int .i64 a.hold, .string (txt a.note)] 41)).alloc (.cells #[.int .i64 a.c, .int .i64 a.s, .int .i64 a.k, .string (txt a.acct), .string (txt a.peer), .int .i64 a.sum, .slice M.a L.n M.c, .int .i64 a.per, .int .i64 a.hold, .string (txt a.note)] 41)
  have hb1 := (Blk.new w 41 #[.int .i64 a.c, .int .i64 a.s, .int .i64 a.k, .string (txt a.acct), .string (txt a.peer), .int .i64 a.sum, .slice L.a L.n L.c, .int .i64 a.per, .int .i64 a.hold, .string (txt a.note)]).alloc (.cells #[.int .i64 a.c, .int .i64 a.s, .int .i64 a.k, .string (txt a.acct), .string (txt a.peer), .int .i64 a.sum, .slice M.a L.n M.c, .int .i64 a.per, .int .i64 a.hold, .string (txt a.note)] 41)
  have hb2 := Blk.new (w.alloc (.cells #[.int .i64 a.c, .int .i64 a.s, .int .i64 a.k, .string (txt a.acct), .string (txt a.peer), .int .i64 a.sum, .slice L.a L.n L.c, .int .i64 a.per, .int .i64 a.hold, .string (txt a.note)] 41)) 41 #[.int .i64 a.c, .int .i64 a.s, .int .i64 a.k, .string (txt a.acct), .string (txt a.peer), .int .i64 a.sum, .slice M.a L.n M.c, .int .i64 a.per, .int .i64 a.hold, .string (txt a.note)]
  have hsz : (w.alloc (.cells #[.int .i64 a.c, .int .i64 a.s, .int .i64 a.k, .string (txt a.acct), .string (txt a.peer), .int .i64 a.sum, .slice L.a L.n L.c, .int .i64 a.per, .int .i64 a.hold, .string (txt a.note)] 41)).heap.size = w.heap.size + 1 := by simp
  rw [hsz] at hb2
  clear hsz
  have hRa := Lib.hid ha.rd
  have hRb := Lib.hid (show RdL w M.a L.n a.legs by rw [hLM]; exact hb.rd)
  have hal := Lib.hid ha.rd.len
  clear ha hb
  replace hm0 := Lib.hid hm0
  replace hb1 := Lib.hid hb1
  replace hb2 := Lib.hid hb2
  replace hLM := Lib.hid hLM
  go_enter Tryz.func49, Tryz.ntmps49
  go_wp2_with fail
  obtain ⟨W0, hW0⟩ : ∃ W0, W0 = (w.alloc (.cells #[.int .i64 a.c, .int .i64 a.s, .int .i64 a.k, .string (txt a.acct), .string (txt a.peer), .int .i64 a.sum, .slice L.a L.n L.c, .int .i64 a.per, .int .i64 a.hold, .string (txt a.note)] 41)).alloc (.cells #[.int .i64 a.c, .int .i64 a.s, .int .i64 a.k, .string (txt a.acct), .string (txt a.peer), .int .i64 a.sum, .slice M.a L.n M.c, .int .i64 a.per, .int .i64 a.hold, .string (txt a.note)] 41) := ⟨_, rfl⟩
  rw [← hW0] at hm0 hb1 hb2 ⊢
  replace hW0 := Lib.hid hW0
  go_loopg [5] L.n (fun k x wr => ∃ j : Nat, x = .int .i64 j ∧ j + k = L.n ∧ ∃ q, wr = W0.drewN q)
  case atStart => exact ⟨0, rfl, by omega, 0, rfl⟩
  case round =>
    obtain ⟨j, rfl, hj, q, hq⟩ := hrel
    have c1 : wr.cell? ⟨w.heap.size, 6, none⟩ = some (.slice L.a L.n L.c) := by rw [hq]; exact (hb1.out.drewN q).cell_ rfl
    have c2 : wr.cell? ⟨w.heap.size + 1, 6, none⟩ = some (.slice M.a L.n M.c) := by rw [hq]; exact (hb2.out.drewN q).cell_ rfl
    by_cases hlt : j < L.n
    · have hjC : j < a.legs.length := by rw [hal.out]; exact hlt
      have hmq := hm0.out.drewN q
      obtain ⟨b, o, x0, e1, -, hx0, a1, a2⟩ := rdl_get (w := W0.drewN q) (Rd.mod0 hRa.out hmq) hlt
      rw [List.getElem?_eq_getElem hjC] at hx0
      injection hx0 with hx0
      subst hx0
      obtain ⟨b', o', y0, e2, -, hy0, b1, b2⟩ := rdl_get (w := W0.drewN q) (Rd.mod0 hRb.out hmq) hlt
      rw [List.getElem?_eq_getElem hjC] at hy0
      injection hy0 with hy0
      subst hy0
      rw [← hq] at a1 a2 b1 b2
      rw [e1] at c1
      rw [e2] at c2
      generalize a.legs[j] = x at *
      have hne := fun W => neq_lg W x x
      unfold lgV at hne
      simp only [decide_true, Bool.not_true] at hne
      clear hmq
      replace hq := Lib.hid hq
      replace hjC := Lib.hid hjC
      replace e1 := Lib.hid e1
      replace e2 := Lib.hid e2
      go_wp2_with (go_quiet (fail))
      go_roundg (gk - 1)
      case measure => omega
      case rel => exact ⟨j + 1, by go_num, by omega, _, by rw [hq.out, World.drewN_drewN]⟩
    · obtain rfl : j = L.n := by omega
      have hend := Lib.hid (show Mod none_ w wr by rw [hq]; exact hm0.out.drewN q)
      replace hq := Lib.hid hq
      go_wp2_with fail
      go_ret
      exact ⟨rfl, hend.out⟩
set_option maxRecDepth 100000 in
set_option maxHeartbeats 4000000 in
theorem same14_eq (w : World) (a : En) (L D M E : SV) (ha : EnM w a L D) (hb : EnM w a M E) (hL : L.n ≤ 140737488355328) (hD : D.n ≤ 140737488355328) :
    Calls Tryz.prog 31 #[.agg #[.int .i64 a.o.c, .int .i64 a.o.s, .int .i64 a.o.k, .string (txt a.o.acct), .string (txt a.o.peer), .int .i64 a.o.sum, .slice L.a L.n L.c, .int .i64 a.o.per, .int .i64 a.o.hold, .string (txt a.o.note), .bool a.none, .slice D.a D.n D.c], .agg #[.int .i64 a.o.c, .int .i64 a.o.s, .int .i64 a.o.k, .string (txt a.o.acct), .string (txt a.o.peer), .int .i64 a.o.sum, .slice M.a M.n M.c, .int .i64 a.o.per, .int .i64 a.o.hold, .string (txt a.o.note), .bool a.none, .slice E.a E.n E.c]] w fun e w' => e = .returned (.bool true) ∧ Mod none_ w w' := by
  have k6 := Lib.hid (fun W (h : Mod none_ w W) => same6_eq W a.o L M (ha.od.mod0 h) (hb.od.mod0 h) hL)
  have hDE : D.n = E.n := by have h1 := ha.rd.len; have h2 := hb.rd.len; omega
  have hz : ((D.n : Int) != (D.n : Int)) = false := by simp
  have hz2 : (a.none != a.none) = false := by simp
  rw [← hDE]
  have hm0 := ((Mod.refl none_ w).alloc (.cells #[.int .i64 a.o.c, .int .i64 a.o.s, .int .i64 a.o.k, .string (txt a.o.acct), .string (txt a.o.peer), .int .i64 a.o.sum, .slice L.a L.n L.c, .int .i64 a.o.per, .int .i64 a.o.hold, .string (txt a.o.note), .bool a.none, .slice D.a D.n D.c] 44)).alloc (.cells #[.int .i64 a.o.c, .int .i64 a.o.s, .int .i64 a.o.k, .string (txt a.o.acct), .string (txt a.o.peer), .int .i64 a.o.sum, .slice M.a M.n M.c, .int .i64 a.o.per, .int .i64 a.o.hold, .string (txt a.o.note), .bool a.none, .slice E.a D.n E.c] 44)
  have hb1 := (Blk.new w 44 #[.int .i64 a.o.c, .int .i64 a.o.s, .int .i64 a.o.k, .string (txt a.o.acct), .string (txt a.o.peer), .int .i64 a.o.sum, .slice L.a L.n L.c, .int .i64 a.o.per, .int .i64 a.o.hold, .string (txt a.o.note), .bool a.none, .slice D.a D.n D.c]).alloc (.cells #[.int .i64 a.o.c, .int .i64 a.o.s, .int .i64 a.o.k, .string (txt a.o.acct), .string (txt a.o.peer), .int .i64 a.o.sum, .slice M.a M.n M.c, .int .i64 a.o.per, .int .i64 a.o.hold, .string (txt a.o.note), .bool a.none, .slice E.a D.n E.c] 44)
  have hb2 := Blk.new (w.alloc (.cells #[.int .i64 a.o.c, .int .i64 a.o.s, .int .i64 a.o.k, .string (txt a.o.acct), .string (txt a.o.peer), .int .i64 a.o.sum, .slice L.a L.n L.c, .int .i64 a.o.per, .int .i64 a.o.hold, .string (txt a.o.note), .bool a.none, .slice D.a D.n D.c] 44)) 44 #[.int .i64 a.o.c, .int .i64 a.o.s, .int .i64 a.o.k, .string (txt a.o.acct), .string (txt a.o.peer), .int .i64 a.o.sum, .slice M.a M.n M.c, .int .i64 a.o.per, .int .i64 a.o.hold, .string (txt a.o.note), .bool a.none, .slice E.a D.n E.c]
  have hsz : (w.alloc (.cells #[.int .i64 a.o.c, .int .i64 a.o.s, .int .i64 a.o.k, .string (txt a.o.acct), .string (txt a.o.peer), .int .i64 a.o.sum, .slice L.a L.n L.c, .int .i64 a.o.per, .int .i64 a.o.hold, .string (txt a.o.note), .bool a.none, .slice D.a D.n D.c] 44)).heap.size = w.heap.size + 1 := by simp
  rw [hsz] at hb2
  clear hsz
  have hRa := Lib.hid ha.rd
  have hRb := Lib.hid (show RdP w E.a D.n a.deps by rw [hDE]; exact hb.rd)
  have hal := Lib.hid ha.rd.len
  clear ha hb
  replace hm0 := Lib.hid hm0
  replace hb1 := Lib.hid hb1
  replace hb2 := Lib.hid hb2
  replace hDE := Lib.hid hDE
  go_enter Tryz.func31, Tryz.ntmps31
  go_wp2_with fail
  with_reducible refine (k6.out _ hm0.out).mono ?_
  rintro e W0 ⟨rfl, hm1⟩
  dsimp only
  have hM1 := Lib.hid (hm0.out.trans hm1)
  have hB1 := Lib.hid (hb1.out.mod hm1 (fun h => h))
  have hB2 := Lib.hid (hb2.out.mod hm1 (fun h => h))
  have i1 : W0.cell? ⟨w.heap.size, 10, none⟩ = some (.bool a.none) := hB1.out.cell_ rfl
  have i2 : W0.cell? ⟨w.heap.size + 1, 10, none⟩ = some (.bool a.none) := hB2.out.cell_ rfl
  have i3 : W0.cell? ⟨w.heap.size, 11, none⟩ = some (.slice D.a D.n D.c) := hB1.out.cell_ rfl
  have i4 : W0.cell? ⟨w.heap.size + 1, 11, none⟩ = some (.slice E.a D.n E.c) := hB2.out.cell_ rfl
  clear hm1 hb1 hb2 hm0 k6
  go_wp2_with fail
  clear i1 i2 i3 i4
  go_loopg [5] D.n (fun k x wr => ∃ j : Nat, x = .int .i64 j ∧ j + k = D.n ∧ ∃ q, wr = W0.drewN q)
  case atStart => exact ⟨0, rfl, by omega, 0, rfl⟩
  case round =>
    obtain ⟨j, rfl, hj, q, hq⟩ := hrel
    have c1 : wr.cell? ⟨w.heap.size, 11, none⟩ = some (.slice D.a D.n D.c) := by rw [hq]; exact (hB1.out.drewN q).cell_ rfl
    have c2 : wr.cell? ⟨w.heap.size + 1, 11, none⟩ = some (.slice E.a D.n E.c) := by rw [hq]; exact (hB2.out.drewN q).cell_ rfl
    by_cases hlt : j < D.n
    · have hjC : j < a.deps.length := by rw [hal.out]; exact hlt
      have hmq := hM1.out.drewN q
      obtain ⟨b, o, x0, e1, -, hx0, a1, a2⟩ := rdp_get (w := W0.drewN q) (Rd.mod0 hRa.out hmq) hlt
      rw [List.getElem?_eq_getElem hjC] at hx0
      injection hx0 with hx0
      subst hx0
      obtain ⟨b', o', y0, e2, -, hy0, b1, b2⟩ := rdp_get (w := W0.drewN q) (Rd.mod0 hRb.out hmq) hlt
      rw [List.getElem?_eq_getElem hjC] at hy0
      injection hy0 with hy0
      subst hy0
      rw [← hq] at a1 a2 b1 b2
      rw [e1] at c1
      rw [e2] at c2
      generalize a.deps[j] = x at *
      have hne := fun W => neq_is W x x
      unfold isV at hne
      simp only [decide_true, Bool.not_true] at hne
      clear hmq
      replace hq := Lib.hid hq
      replace hjC := Lib.hid hjC
      replace e1 := Lib.hid e1
      replace e2 := Lib.hid e2
      go_wp2_with (go_quiet (fail))
      go_roundg (gk - 1)
      case measure => omega
      case rel => exact ⟨j + 1, by go_num, by omega, _, by rw [hq.out, World.drewN_drewN]⟩
    · obtain rfl : j = D.n := by omega
      have hend := Lib.hid (show Mod none_ w wr by rw [hq]; exact hM1.out.drewN q)
      replace hq := Lib.hid hq
      go_wp2_with fail
      go_ret
      exact ⟨rfl, hend.out⟩
end Go.Proofs.YtdekehhmjehicaaGreat
/-
  The reference's Same of orders, in general. No condition.
-/
namespace Go.Proofs.YtdekehhmjehicaaGreat
set_option linter.unusedVariables false
set_option linter.unusedSimpArgs false
open Go.RowKit
theorem od_eq {a b : Od} : a = b ↔ (a.c = b.c ∧ a.s = b.s ∧ a.k = b.k ∧ a.acct = b.acct ∧ a.peer = b.peer ∧ a.sum = b.sum ∧ a.per = b.per ∧ a.hold = b.hold ∧ a.note = b.note) ∧ a.legs = b.legs := by
  cases a; cases b
  simp only [Od.mk.injEq]
  exact ⟨fun ⟨h1, h2, h3, h4, h5, h6, h7, h8, h9, h10⟩ => ⟨⟨h1, h2, h3, h4, h5, h6, h8, h9, h10⟩, h7⟩, fun ⟨⟨h1, h2, h3, h4, h5, h6, h8, h9, h10⟩, h7⟩ => ⟨h1, h2, h3, h4, h5, h6, h7, h8, h9, h10⟩⟩
def FieldsO (a b : Od) : Prop := a.c = b.c ∧ a.s = b.s ∧ a.k = b.k ∧ a.acct = b.acct ∧ a.peer = b.peer ∧ a.sum = b.sum ∧ a.per = b.per ∧ a.hold = b.hold ∧ a.note = b.note
set_option maxRecDepth 100000 in
set_option maxHeartbeats 8000000 in
theorem same6_no (w : World) (a b : Od) (L M : SV) (hf : ¬ FieldsO a b) :
    Calls Tryz.prog 49 #[.agg #[.int .i64 a.c, .int .i64 a.s, .int .i64 a.k, .string (txt a.acct), .string (txt a.peer), .int .i64 a.sum, .slice L.a L.n L.c, .int .i64 a.per, .int .i64 a.hold, .string (txt a.note)], .agg #[.int .i64 b.c, .int .i64 b.s, .int .i64 b.k, .string (txt b.acct), .string (txt b.peer), .int .i64 b.sum, .slice M.a M.n M.c, .int .i64 b.per, .int .i64 b.hold, .string (txt b.note)]] w fun e w' => e = .returned (.bool false) ∧ Mod none_ w w' := by
  have hid := fun W => neq_id W ⟨a.c, a.s⟩ ⟨b.c, b.s⟩
  unfold isV at hid
  dsimp only at hid
  unfold FieldsO at hf
  replace hf := Lib.hid hf
  go_enter Tryz.func49, Tryz.ntmps49
  go_wp2_with fail
  · go_ret
    exact ⟨rfl, ((Mod.refl none_ w).alloc _).alloc _⟩
  · have e1 : a.c = b.c ∧ a.s = b.s := by assumption
    exact absurd ⟨e1.1, e1.2, by assumption, by assumption, by assumption, by assumption, by assumption, by assumption, by assumption⟩ hf.out
  all_goals
    go_ret
    exact ⟨rfl, ((Mod.refl none_ w).alloc _).alloc _⟩
set_option maxRecDepth 100000 in
set_option maxHeartbeats 8000000 in
theorem same6_legs (w : World) (a : Od) (bl : List Lg) (L M : SV) (ha : OdM w a L) (hb : RdL w M.a M.n bl) (hL : L.n ≤ 140737488355328) (hM : M.n ≤ 140737488355328) (hab : a.legs ≠ bl) :
    Calls Tryz.prog 49 #[.agg #[.int .i64 a.c, .int .i64 a.s, .int .i64 a.k, .string (txt a.acct), .string (txt a.peer), .int .i64 a.sum, .slice L.a L.n L.c, .int .i64 a.per, .int .i64 a.hold, .string (txt a.note)], .agg #[.int .i64 a.c, .int .i64 a.s, .int .i64 a.k, .string (txt a.acct), .string (txt a.peer), .int .i64 a.sum, .slice M.a M.n M.c, .int .i64 a.per, .int .i64 a.hold, .string (txt a.note)]] w fun e w' => e = .returned (.bool false) ∧ Mod none_ w w' := by
  have hid := fun W => neq_id W ⟨a.c, a.s⟩ ⟨a.c, a.s⟩
  unfold isV at hid
  simp only [decide_true, Bool.not_true] at hid
  have hm0 := ((Mod.refl none_ w).alloc (.cells #[.int .i64 a.c, .int .i64 a.s, .int .i64 a.k, .string (txt a.acct), .string (txt a.peer), .int .i64 a.sum, .slice L.a L.n L.c, .int .i64 a.per, .int .i64 a.hold, .string (txt a.note)] 41)).alloc (.cells #[.int .i64 a.c, .int .i64 a.s, .int .i64 a.k, .string (txt a.acct), .string (txt a.peer), .int .i64 a.sum, .slice M.a M.n M.c, .int .i64 a.per, .int .i64 a.hold, .string (txt a.note)] 41)
  have hb1 := (Blk.new w 41 #[.int .i64 a.c, .int .i64 a.s, .int .i64 a.k, .string (txt a.acct), .string (txt a.peer), .int .i64 a.sum, .slice L.a L.n L.c, .int .i64 a.per, .int .i64 a.hold, .string (txt a.note)]).alloc (.cells #[.int .i64 a.c, .int .i64 a.s, .int .i64 a.k, .string (txt a.acct), .string (txt a.peer), .int .i64 a.sum, .slice M.a M.n M.c, .int .i64 a.per, .int .i64 a.hold, .string (txt a.note)] 41)
  have hb2 := Blk.new (w.alloc (.cells #[.int .i64 a.c, .int .i64 a.s, .int .i64 a.k, .string (txt a.acct), .string (txt a.peer), .int .i64 a.sum, .slice L.a L.n L.c, .int .i64 a.per, .int .i64 a.hold, .string (txt a.note)] 41)) 41 #[.int .i64 a.c, .int .i64 a.s, .int .i64 a.k, .string (txt a.acct), .string (txt a.peer), .int .i64 a.sum, .slice M.a M.n M.c, .int .i64 a.per, .int .i64 a.hold, .string (txt a.note)]
  have hsz : (w.alloc (.cells #[.int .i64 a.c, .int .i64 a.s, .int .i64 a.k, .string (txt a.acct), .string (txt a.peer), .int .i64 a.sum, .slice L.a L.n L.c, .int .i64 a.per, .int .i64 a.hold, .string (txt a.note)] 41)).heap.size = w.heap.size + 1 := by simp
  rw [hsz] at hb2
  clear hsz
  have hRa := Lib.hid ha.rd
  have hRb := Lib.hid hb
  have hal := Lib.hid ha.rd.len
  have hbl := Lib.hid hb.len
  clear ha hb
  replace hm0 := Lib.hid hm0
  replace hb1 := Lib.hid hb1
  replace hb2 := Lib.hid hb2
  replace hab := Lib.hid hab
  by_cases hLM : L.n = M.n
  · have hz : ((L.n : Int) != (M.n : Int)) = false := by simp [hLM]
    replace hLM := Lib.hid hLM
    go_enter Tryz.func49, Tryz.ntmps49
    go_wp2_with fail
    obtain ⟨W0, hW0⟩ : ∃ W0, W0 = (w.alloc (.cells #[.int .i64 a.c, .int .i64 a.s, .int .i64 a.k, .string (txt a.acct), .string (txt a.peer), .int .i64 a.sum, .slice L.a L.n L.c, .int .i64 a.per, .int .i64 a.hold, .string (txt a.note)] 41)).alloc (.cells #[.int .i64 a.c, .int .i64 a.s, .int .i64 a.k, .string (txt a.acct), .string (txt a.peer), .int .i64 a.sum, .slice M.a M.n M.c, .int .i64 a.per, .int .i64 a.hold, .string (txt a.note)] 41) := ⟨_, rfl⟩
    rw [← hW0] at hm0 hb1 hb2 ⊢
    replace hW0 := Lib.hid hW0
    go_loopg [5] L.n (fun k x wr => ∃ j : Nat, x = .int .i64 j ∧ j + k = L.n ∧ (∀ i, i < j → a.legs[i]? = bl[i]?) ∧ ∃ q, wr = W0.drewN q)
    case atStart => exact ⟨0, rfl, by omega, fun i h => absurd h (Nat.not_lt_zero _), 0, rfl⟩
    case round =>
      obtain ⟨j, rfl, hj, hall, q, hq⟩ := hrel
      have c1 : wr.cell? ⟨w.heap.size, 6, none⟩ = some (.slice L.a L.n L.c) := by rw [hq]; exact (hb1.out.drewN q).cell_ rfl
      have c2 : wr.cell? ⟨w.heap.size + 1, 6, none⟩ = some (.slice M.a M.n M.c) := by rw [hq]; exact (hb2.out.drewN q).cell_ rfl
      by_cases hlt : j < L.n
      · have hmq := hm0.out.drewN q
        have hltM : j < M.n := by have := hLM.out; omega
        obtain ⟨b, o, x, e1, -, hx0, a1, a2⟩ := rdl_get (w := W0.drewN q) (Rd.mod0 hRa.out hmq) hlt
        obtain ⟨b', o', y, e2, -, hy0, b1, b2⟩ := rdl_get (w := W0.drewN q) (Rd.mod0 hRb.out hmq) hltM
        rw [← hq] at a1 a2 b1 b2
        rw [e1] at c1
        rw [e2] at c2
        have hne := fun W => neq_lg W x y
        unfold lgV at hne
        have hend := Lib.hid (show Mod none_ w wr by rw [hq]; exact hmq)
        by_cases hxy : x = y
        · have hn : ∀ i, i < j + 1 → a.legs[i]? = bl[i]? := fun i hi => by
            by_cases e : i = j
            · rw [e, hx0, hy0, hxy]
            · exact hall i (by omega)
          simp only [hxy, decide_true, Bool.not_true] at hne a1 a2
          clear hall hmq
          replace hq := Lib.hid hq
          replace hn := Lib.hid hn
          replace e1 := Lib.hid e1
          replace e2 := Lib.hid e2
          replace hxy := Lib.hid hxy
          replace hx0 := Lib.hid hx0
          replace hy0 := Lib.hid hy0
          go_wp2_with (go_quiet (fail))
          go_roundg (gk - 1)
          case measure => omega
          case rel => exact ⟨j + 1, by go_num, by omega, hn.out, _, by rw [hq.out, World.drewN_drewN]⟩
        · rw [decide_eq_false hxy, Bool.not_false] at hne
          clear hall hmq
          replace hq := Lib.hid hq
          replace e1 := Lib.hid e1
          replace e2 := Lib.hid e2
          replace hxy := Lib.hid hxy
          replace hx0 := Lib.hid hx0
          replace hy0 := Lib.hid hy0
          go_wp2_with (go_quiet (fail))
          go_ret
          exact ⟨rfl, hend.out.drewN _⟩
      · exfalso
        apply hab.out
        apply List.ext_getElem?
        intro i
        by_cases hi : i < j
        · exact hall i hi
        · rw [List.getElem?_eq_none (by rw [hal.out]; omega), List.getElem?_eq_none (by rw [hbl.out]; have := hLM.out; omega)]
  · have hz : ((L.n : Int) != (M.n : Int)) = true := by simp; omega
    replace hLM := Lib.hid hLM
    go_enter Tryz.func49, Tryz.ntmps49
    go_wp2_with fail
    go_ret
    exact ⟨rfl, hm0.out⟩
theorem same6_ok (w : World) (a b : Od) (L M : SV) (ha : OdM w a L) (hb : OdM w b M) (hL : L.n ≤ 140737488355328) (hM : M.n ≤ 140737488355328) :
    Calls Tryz.prog 49 #[.agg #[.int .i64 a.c, .int .i64 a.s, .int .i64 a.k, .string (txt a.acct), .string (txt a.peer), .int .i64 a.sum, .slice L.a L.n L.c, .int .i64 a.per, .int .i64 a.hold, .string (txt a.note)], .agg #[.int .i64 b.c, .int .i64 b.s, .int .i64 b.k, .string (txt b.acct), .string (txt b.peer), .int .i64 b.sum, .slice M.a M.n M.c, .int .i64 b.per, .int .i64 b.hold, .string (txt b.note)]] w fun e w' => e = .returned (.bool (decide (a = b))) ∧ Mod none_ w w' := by
  by_cases hab : a = b
  · subst hab
    rw [decide_eq_true rfl]
    exact same6_eq w a L M ha hb hL
  rw [decide_eq_false hab]
  by_cases hf : FieldsO a b
  · have hl : a.legs ≠ b.legs := fun h => hab (od_eq.2 ⟨hf, h⟩)
    have := same6_legs w a b.legs L M ha hb.rd hL hM hl
    obtain ⟨f1, f2, f3, f4, f5, f6, f7, f8, f9⟩ := hf
    rw [f1, f2, f3, f4, f5, f6, f7, f8, f9] at this
    rw [f1, f2, f3, f4, f5, f6, f7, f8, f9]
    exact this
  · exact same6_no w a b L M hf
end Go.Proofs.YtdekehhmjehicaaGreat
