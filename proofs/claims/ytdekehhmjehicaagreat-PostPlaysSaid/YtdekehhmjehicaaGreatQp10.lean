import Derived.Test.YtdekehhmjehicaaGreatQp8
import Derived.Deep.CutRange
/-
  post.Right.
-/
namespace Go.Proofs.YtdekehhmjehicaaGreat
set_option linter.unusedVariables false
set_option linter.unusedSimpArgs false
open Go.RowKit
theorem record_size : (Tryz.prog.info? 77).map (·.size) = some 17 := by kernel_rfl
theorem ret_record {fn : Func} {p : Tmp} (h : fn.results = #[.cell p 77]) {a : Act} {w : World} {R : Ending → World → Prop} (g : Nat) (cs : Array Value) (hp : a.tmps.getD p undef = .pointer (some ⟨g, 0, none⟩))
    (hg : Blk w g 77 cs) (hs : cs.size = 17) (hd : a.defers = []) (hR : R (.returned (.agg cs)) w) : bodyPost Tryz.prog fn R .ret a w :=
  bodyPost_ret (results_cell_row h a.tmps w g _ cs _ _ hp hg Tryz.underlying77 rfl (by rw [hs]; exact record_size)) hd hR
set_option maxRecDepth 100000 in
theorem whole_ok (w : World) (m : Mg) (L D : SV) : Calls Tryz.prog 33 #[.agg #[.int .i64 m.frm, .int .i64 m.to, .int .i64 m.kind, .int .i64 m.r.i.r, .int .i64 m.r.i.n, .int .i64 m.r.bal, .int .i64 m.r.st, .int .i64 m.r.by_, .int .i64 m.r.e.o.c, .int .i64 m.r.e.o.s, .int .i64 m.r.e.o.k, .string (txt m.r.e.o.acct), .string (txt m.r.e.o.peer), .int .i64 m.r.e.o.sum, .slice L.a L.n L.c, .int .i64 m.r.e.o.per, .int .i64 m.r.e.o.hold, .string (txt m.r.e.o.note), .bool m.r.e.none, .slice D.a D.n D.c]] w fun e' w' => e' = .returned (.agg #[.int .i64 m.r.i.r, .int .i64 m.r.i.n, .int .i64 m.r.bal, .int .i64 m.r.st, .int .i64 m.r.by_, .int .i64 m.r.e.o.c, .int .i64 m.r.e.o.s, .int .i64 m.r.e.o.k, .string (txt m.r.e.o.acct), .string (txt m.r.e.o.peer), .int .i64 m.r.e.o.sum, .slice L.a L.n L.c, .int .i64 m.r.e.o.per, .int .i64 m.r.e.o.hold, .string (txt m.r.e.o.note), .bool m.r.e.none, .slice D.a D.n D.c]) ∧ Mod none_ w w' := by
  go_enter Tryz.func33, Tryz.ntmps33
  go_wp2_with fail
  exact ret_record rfl (w.heap.size + 1) _ rfl (heap_alloc2_new _ _ _) rfl rfl ⟨rfl, ((Mod.refl none_ w).alloc _).alloc _⟩
def bareR (r : Rc) : Rc := ⟨r.i, 0, 3, 0, r.e⟩
set_option maxRecDepth 100000 in
theorem bareM_ok (w : World) (m : Mg) (L D : SV) : Calls Tryz.prog 37 #[.agg #[.int .i64 m.frm, .int .i64 m.to, .int .i64 m.kind, .int .i64 m.r.i.r, .int .i64 m.r.i.n, .int .i64 m.r.bal, .int .i64 m.r.st, .int .i64 m.r.by_, .int .i64 m.r.e.o.c, .int .i64 m.r.e.o.s, .int .i64 m.r.e.o.k, .string (txt m.r.e.o.acct), .string (txt m.r.e.o.peer), .int .i64 m.r.e.o.sum, .slice L.a L.n L.c, .int .i64 m.r.e.o.per, .int .i64 m.r.e.o.hold, .string (txt m.r.e.o.note), .bool m.r.e.none, .slice D.a D.n D.c]] w fun e' w' => e' = .returned (.agg #[.int .i64 m.r.i.r, .int .i64 m.r.i.n, .int .i64 0, .int .i64 3, .int .i64 0, .int .i64 m.r.e.o.c, .int .i64 m.r.e.o.s, .int .i64 m.r.e.o.k, .string (txt m.r.e.o.acct), .string (txt m.r.e.o.peer), .int .i64 m.r.e.o.sum, .slice L.a L.n L.c, .int .i64 m.r.e.o.per, .int .i64 m.r.e.o.hold, .string (txt m.r.e.o.note), .bool m.r.e.none, .slice D.a D.n D.c]) ∧ Mod none_ w w' := by
  go_enter Tryz.func37, Tryz.ntmps37
  go_wp2_with fail
  exact ret_record rfl (w.heap.size + 1) _ rfl (heap_alloc2_new _ _ _) rfl rfl ⟨rfl, ((Mod.refl none_ w).alloc _).alloc _⟩
def endsB (m : Mg) : Bool := decide (0 ≤ m.frm ∧ m.frm ≤ 6 ∧ 0 ≤ m.to ∧ m.to ≤ 6 ∧ ¬ m.frm = m.to)
def kindMB (m : Mg) : Bool := decide (1 ≤ m.kind ∧ m.kind ≤ 9)
def plainB (m : Mg) : Bool := decide (m.r.st = 0 ∧ m.r.by_ = 0 ∧ 0 ≤ m.r.bal ∧ m.r.bal ≤ 1000000)
def rightM (m : Mg) : Bool := endsB m && (kindMB m && (rightR m.r || (plainB m && rightR (bareR m.r))))
set_option maxRecDepth 100000 in
set_option maxHeartbeats 8000000 in
theorem rightM_e1 (w : World) (f t kd ir jn bl st by_ : Int) (e : En) (L D : SV) (c1 : ¬ (0 ≤ f)) :
    Calls Tryz.prog 24 #[.agg #[.int .i64 f, .int .i64 t, .int .i64 kd, .int .i64 ir, .int .i64 jn, .int .i64 bl, .int .i64 st, .int .i64 by_, .int .i64 e.o.c, .int .i64 e.o.s, .int .i64 e.o.k, .string (txt e.o.acct), .string (txt e.o.peer), .int .i64 e.o.sum, .slice L.a L.n L.c, .int .i64 e.o.per, .int .i64 e.o.hold, .string (txt e.o.note), .bool e.none, .slice D.a D.n D.c]] w fun e' w' => e' = .returned (.bool false) ∧ Mod none_ w w' := by
  have hm0 := Lib.hid ((Mod.refl none_ w).alloc (.cells #[.int .i64 f, .int .i64 t, .int .i64 kd, .int .i64 ir, .int .i64 jn, .int .i64 bl, .int .i64 st, .int .i64 by_, .int .i64 e.o.c, .int .i64 e.o.s, .int .i64 e.o.k, .string (txt e.o.acct), .string (txt e.o.peer), .int .i64 e.o.sum, .slice L.a L.n L.c, .int .i64 e.o.per, .int .i64 e.o.hold, .string (txt e.o.note), .bool e.none, .slice D.a D.n D.c] 46))
  go_enter Tryz.func24, Tryz.ntmps24
  go_wp2_with fail
  go_ret
  exact ⟨rfl, hm0.out⟩
set_option maxRecDepth 100000 in
set_option maxHeartbeats 8000000 in
theorem rightM_e2 (w : World) (f t kd ir jn bl st by_ : Int) (e : En) (L D : SV) (c1 : 0 ≤ f) (c2 : ¬ f ≤ 6) :
    Calls Tryz.prog 24 #[.agg #[.int .i64 f, .int .i64 t, .int .i64 kd, .int .i64 ir, .int .i64 jn, .int .i64 bl, .int .i64 st, .int .i64 by_, .int .i64 e.o.c, .int .i64 e.o.s, .int .i64 e.o.k, .string (txt e.o.acct), .string (txt e.o.peer), .int .i64 e.o.sum, .slice L.a L.n L.c, .int .i64 e.o.per, .int .i64 e.o.hold, .string (txt e.o.note), .bool e.none, .slice D.a D.n D.c]] w fun e' w' => e' = .returned (.bool false) ∧ Mod none_ w w' := by
  have hm0 := Lib.hid ((Mod.refl none_ w).alloc (.cells #[.int .i64 f, .int .i64 t, .int .i64 kd, .int .i64 ir, .int .i64 jn, .int .i64 bl, .int .i64 st, .int .i64 by_, .int .i64 e.o.c, .int .i64 e.o.s, .int .i64 e.o.k, .string (txt e.o.acct), .string (txt e.o.peer), .int .i64 e.o.sum, .slice L.a L.n L.c, .int .i64 e.o.per, .int .i64 e.o.hold, .string (txt e.o.note), .bool e.none, .slice D.a D.n D.c] 46))
  go_enter Tryz.func24, Tryz.ntmps24
  go_wp2_with fail
  go_ret
  exact ⟨rfl, hm0.out⟩
set_option maxRecDepth 100000 in
set_option maxHeartbeats 8000000 in
theorem rightM_e3 (w : World) (f t kd ir jn bl st by_ : Int) (e : En) (L D : SV) (c1 : 0 ≤ f) (c2 : f ≤ 6) (c3 : ¬ 0 ≤ t) :
    Calls Tryz.prog 24 #[.agg #[.int .i64 f, .int .i64 t, .int .i64 kd, .int .i64 ir, .int .i64 jn, .int .i64 bl, .int .i64 st, .int .i64 by_, .int .i64 e.o.c, .int .i64 e.o.s, .int .i64 e.o.k, .string (txt e.o.acct), .string (txt e.o.peer), .int .i64 e.o.sum, .slice L.a L.n L.c, .int .i64 e.o.per, .int .i64 e.o.hold, .string (txt e.o.note), .bool e.none, .slice D.a D.n D.c]] w fun e' w' => e' = .returned (.bool false) ∧ Mod none_ w w' := by
  have hm0 := Lib.hid ((Mod.refl none_ w).alloc (.cells #[.int .i64 f, .int .i64 t, .int .i64 kd, .int .i64 ir, .int .i64 jn, .int .i64 bl, .int .i64 st, .int .i64 by_, .int .i64 e.o.c, .int .i64 e.o.s, .int .i64 e.o.k, .string (txt e.o.acct), .string (txt e.o.peer), .int .i64 e.o.sum, .slice L.a L.n L.c, .int .i64 e.o.per, .int .i64 e.o.hold, .string (txt e.o.note), .bool e.none, .slice D.a D.n D.c] 46))
  go_enter Tryz.func24, Tryz.ntmps24
  go_wp2_with fail
  go_ret
  exact ⟨rfl, hm0.out⟩
set_option maxRecDepth 100000 in
set_option maxHeartbeats 8000000 in
theorem rightM_e4 (w : World) (f t kd ir jn bl st by_ : Int) (e : En) (L D : SV) (c1 : 0 ≤ f) (c2 : f ≤ 6) (c3 : 0 ≤ t) (c4 : ¬ t ≤ 6) :
    Calls Tryz.prog 24 #[.agg #[.int .i64 f, .int .i64 t, .int .i64 kd, .int .i64 ir, .int .i64 jn, .int .i64 bl, .int .i64 st, .int .i64 by_, .int .i64 e.o.c, .int .i64 e.o.s, .int .i64 e.o.k, .string (txt e.o.acct), .string (txt e.o.peer), .int .i64 e.o.sum, .slice L.a L.n L.c, .int .i64 e.o.per, .int .i64 e.o.hold, .string (txt e.o.note), .bool e.none, .slice D.a D.n D.c]] w fun e' w' => e' = .returned (.bool false) ∧ Mod none_ w w' := by
  have hm0 := Lib.hid ((Mod.refl none_ w).alloc (.cells #[.int .i64 f, .int .i64 t, .int .i64 kd, .int .i64 ir, .int .i64 jn, .int .i64 bl, .int .i64 st, .int .i64 by_, .int .i64 e.o.c, .int .i64 e.o.s, .int .i64 e.o.k, .string (txt e.o.acct), .string (txt e.o.peer), .int .i64 e.o.sum, .slice L.a L.n L.c, .int .i64 e.o.per, .int .i64 e.o.hold, .string (txt e.o.note), .bool e.none, .slice D.a D.n D.c] 46))
  go_enter Tryz.func24, Tryz.ntmps24
  go_wp2_with fail
  go_ret
  exact ⟨rfl, hm0.out⟩
set_option maxRecDepth 100000 in
set_option maxHeartbeats 8000000 in
theorem rightM_e5 (w : World) (f t kd ir jn bl st by_ : Int) (e : En) (L D : SV) (c1 : 0 ≤ f) (c2 : f ≤ 6) (c5 : f = t) :
    Calls Tryz.prog 24 #[.agg #[.int .i64 f, .int .i64 t, .int .i64 kd, .int .i64 ir, .int .i64 jn, .int .i64 bl, .int .i64 st, .int .i64 by_, .int .i64 e.o.c, .int .i64 e.o.s, .int .i64 e.o.k, .string (txt e.o.acct), .string (txt e.o.peer), .int .i64 e.o.sum, .slice L.a L.n L.c, .int .i64 e.o.per, .int .i64 e.o.hold, .string (txt e.o.note), .bool e.none, .slice D.a D.n D.c]] w fun e' w' => e' = .returned (.bool false) ∧ Mod none_ w w' := by
  subst c5
  have hm0 := Lib.hid ((Mod.refl none_ w).alloc (.cells #[.int .i64 f, .int .i64 f, .int .i64 kd, .int .i64 ir, .int .i64 jn, .int .i64 bl, .int .i64 st, .int .i64 by_, .int .i64 e.o.c, .int .i64 e.o.s, .int .i64 e.o.k, .string (txt e.o.acct), .string (txt e.o.peer), .int .i64 e.o.sum, .slice L.a L.n L.c, .int .i64 e.o.per, .int .i64 e.o.hold, .string (txt e.o.note), .bool e.none, .slice D.a D.n D.c] 46))
  have d8 : (f == f) = true := by simp
  have d9 : (f != f) = false := by simp
  go_enter Tryz.func24, Tryz.ntmps24
  go_wp2_with fail
  go_ret
  exact ⟨rfl, hm0.out⟩
set_option maxRecDepth 100000 in
set_option maxHeartbeats 8000000 in
theorem rightM_k1 (w : World) (f t kd ir jn bl st by_ : Int) (e : En) (L D : SV) (c1 : 0 ≤ f) (c2 : f ≤ 6) (c3 : 0 ≤ t) (c4 : t ≤ 6) (c5 : ¬ f = t) (c6 : kd < 1) :
    Calls Tryz.prog 24 #[.agg #[.int .i64 f, .int .i64 t, .int .i64 kd, .int .i64 ir, .int .i64 jn, .int .i64 bl, .int .i64 st, .int .i64 by_, .int .i64 e.o.c, .int .i64 e.o.s, .int .i64 e.o.k, .string (txt e.o.acct), .string (txt e.o.peer), .int .i64 e.o.sum, .slice L.a L.n L.c, .int .i64 e.o.per, .int .i64 e.o.hold, .string (txt e.o.note), .bool e.none, .slice D.a D.n D.c]] w fun e' w' => e' = .returned (.bool false) ∧ Mod none_ w w' := by
  have d8 : (f == t) = false := by simp; omega
  have d9 : (f != t) = true := by simp; omega
  have hm0 := Lib.hid ((Mod.refl none_ w).alloc (.cells #[.int .i64 f, .int .i64 t, .int .i64 kd, .int .i64 ir, .int .i64 jn, .int .i64 bl, .int .i64 st, .int .i64 by_, .int .i64 e.o.c, .int .i64 e.o.s, .int .i64 e.o.k, .string (txt e.o.acct), .string (txt e.o.peer), .int .i64 e.o.sum, .slice L.a L.n L.c, .int .i64 e.o.per, .int .i64 e.o.hold, .string (txt e.o.note), .bool e.none, .slice D.a D.n D.c] 46))
  go_enter Tryz.func24, Tryz.ntmps24
  go_wp2_with fail
  go_ret
  exact ⟨rfl, hm0.out⟩
set_option maxRecDepth 100000 in
set_option maxHeartbeats 8000000 in
theorem rightM_k2 (w : World) (f t kd ir jn bl st by_ : Int) (e : En) (L D : SV) (c1 : 0 ≤ f) (c2 : f ≤ 6) (c3 : 0 ≤ t) (c4 : t ≤ 6) (c5 : ¬ f = t) (c6 : ¬ kd < 1) (c7 : 9 < kd) :
    Calls Tryz.prog 24 #[.agg #[.int .i64 f, .int .i64 t, .int .i64 kd, .int .i64 ir, .int .i64 jn, .int .i64 bl, .int .i64 st, .int .i64 by_, .int .i64 e.o.c, .int .i64 e.o.s, .int .i64 e.o.k, .string (txt e.o.acct), .string (txt e.o.peer), .int .i64 e.o.sum, .slice L.a L.n L.c, .int .i64 e.o.per, .int .i64 e.o.hold, .string (txt e.o.note), .bool e.none, .slice D.a D.n D.c]] w fun e' w' => e' = .returned (.bool false) ∧ Mod none_ w w' := by
  have d8 : (f == t) = false := by simp; omega
  have d9 : (f != t) = true := by simp; omega
  have hm0 := Lib.hid ((Mod.refl none_ w).alloc (.cells #[.int .i64 f, .int .i64 t, .int .i64 kd, .int .i64 ir, .int .i64 jn, .int .i64 bl, .int .i64 st, .int .i64 by_, .int .i64 e.o.c, .int .i64 e.o.s, .int .i64 e.o.k, .string (txt e.o.acct), .string (txt e.o.peer), .int .i64 e.o.sum, .slice L.a L.n L.c, .int .i64 e.o.per, .int .i64 e.o.hold, .string (txt e.o.note), .bool e.none, .slice D.a D.n D.c] 46))
  go_enter Tryz.func24, Tryz.ntmps24
  go_wp2_with fail
  go_ret
  exact ⟨rfl, hm0.out⟩
end Go.Proofs.YtdekehhmjehicaaGreat
/-
  post.Right, where the entry alone may not be.
-/
namespace Go.Proofs.YtdekehhmjehicaaGreat
set_option linter.unusedVariables false
set_option linter.unusedSimpArgs false
open Go.RowKit
theorem msg_sizeF : (Tryz.prog.info? 46).map (·.size) = some 20 := by kernel_rfl
set_option maxRecDepth 100000 in
set_option maxHeartbeats 8000000 in
theorem rightM_f (w : World) (f t kd ir jn bl st by_ : Int) (e : En) (L D : SV) (c1 : 0 ≤ f) (c2 : f ≤ 6) (c3 : 0 ≤ t) (c4 : t ≤ 6) (c5 : ¬ f = t) (c6 : ¬ kd < 1) (c7 : ¬ 9 < kd) (hE : EnM w e L D) (hL : L.n ≤ 140737488355328) (hD : D.n ≤ 140737488355328) (hk : (Lit.int .i64 e.o.k).wf = true) (hz : ∀ l ∈ e.o.legs, (txt l.n).size ≤ maxLen) (cp : ¬ (st = 0 ∧ by_ = 0 ∧ 0 ≤ bl ∧ bl ≤ 1000000)) :
    Calls Tryz.prog 24 #[.agg #[.int .i64 f, .int .i64 t, .int .i64 kd, .int .i64 ir, .int .i64 jn, .int .i64 bl, .int .i64 st, .int .i64 by_, .int .i64 e.o.c, .int .i64 e.o.s, .int .i64 e.o.k, .string (txt e.o.acct), .string (txt e.o.peer), .int .i64 e.o.sum, .slice L.a L.n L.c, .int .i64 e.o.per, .int .i64 e.o.hold, .string (txt e.o.note), .bool e.none, .slice D.a D.n D.c]] w fun e' w' => e' = .returned (.bool (rightR ⟨⟨ir, jn⟩, bl, st, by_, e⟩)) ∧ Mod none_ w w' := by
  have d8 : (f == t) = false := by simp; omega
  have d9 : (f != t) = true := by simp; omega
  have hm0 := Lib.hid ((Mod.refl none_ w).alloc (.cells #[.int .i64 f, .int .i64 t, .int .i64 kd, .int .i64 ir, .int .i64 jn, .int .i64 bl, .int .i64 st, .int .i64 by_, .int .i64 e.o.c, .int .i64 e.o.s, .int .i64 e.o.k, .string (txt e.o.acct), .string (txt e.o.peer), .int .i64 e.o.sum, .slice L.a L.n L.c, .int .i64 e.o.per, .int .i64 e.o.hold, .string (txt e.o.note), .bool e.none, .slice D.a D.n D.c] 46))
  have hB1 := Lib.hid (Blk.new w 46 #[.int .i64 f, .int .i64 t, .int .i64 kd, .int .i64 ir, .int .i64 jn, .int .i64 bl, .int .i64 st, .int .i64 by_, .int .i64 e.o.c, .int .i64 e.o.s, .int .i64 e.o.k, .string (txt e.o.acct), .string (txt e.o.peer), .int .i64 e.o.sum, .slice L.a L.n L.c, .int .i64 e.o.per, .int .i64 e.o.hold, .string (txt e.o.note), .bool e.none, .slice D.a D.n D.c])
  have kw := Lib.hid (fun W => whole_ok W ⟨f, t, kd, ⟨⟨ir, jn⟩, bl, st, by_, e⟩⟩ L D)
  have kb := Lib.hid (fun W => bareM_ok W ⟨f, t, kd, ⟨⟨ir, jn⟩, bl, st, by_, e⟩⟩ L D)
  have k1 := Lib.hid (fun W (h : Mod none_ w W) => rightR_ok W ⟨⟨ir, jn⟩, bl, st, by_, e⟩ L D (hE.mod0 h) hL hD hk hz)
  have k2 := Lib.hid (fun W (h : Mod none_ w W) => rightR_ok W ⟨⟨ir, jn⟩, 0, 3, 0, e⟩ L D (hE.mod0 h) hL hD hk hz)
  dsimp only at kw kb k1 k2
  generalize rightR ⟨⟨ir, jn⟩, bl, st, by_, e⟩ = r1 at *
  generalize rightR ⟨⟨ir, jn⟩, 0, 3, 0, e⟩ = r2 at *
  replace hE := Lib.hid hE
  replace hk := Lib.hid hk
  replace hz := Lib.hid hz
  go_enter Tryz.func24, Tryz.ntmps24
  go_upto_region 1 with fail
  go_cut [1, 2, 3] from 0 to 29 (fun s1 s2 s3 W => s1 = .pointer (some ⟨w.heap.size, 0, none⟩) ∧ s2 = .bool false ∧ s3 = .bool true ∧ Mod none_ w W ∧ Blk W w.heap.size 46 #[.int .i64 f, .int .i64 t, .int .i64 kd, .int .i64 ir, .int .i64 jn, .int .i64 bl, .int .i64 st, .int .i64 by_, .int .i64 e.o.c, .int .i64 e.o.s, .int .i64 e.o.k, .string (txt e.o.acct), .string (txt e.o.peer), .int .i64 e.o.sum, .slice L.a L.n L.c, .int .i64 e.o.per, .int .i64 e.o.hold, .string (txt e.o.note), .bool e.none, .slice D.a D.n D.c])
  case first =>
    go_wp2_with fail
    go_meet
    exact ⟨rfl, rfl, rfl, hm0.out, hB1.out⟩
  case rest =>
    clear hm0 hB1
    obtain ⟨rfl, rfl, rfl, hm0, hB1⟩ := hcut
    have p0 : wc.cell? ⟨w.heap.size, 0, none⟩ = some (.int .i64 f) := hB1.cell_ rfl
    have p1 : wc.cell? ⟨w.heap.size, 1, none⟩ = some (.int .i64 t) := hB1.cell_ rfl
    have p2 : wc.cell? ⟨w.heap.size, 2, none⟩ = some (.int .i64 kd) := hB1.cell_ rfl
    have p3 : wc.cell? ⟨w.heap.size, 3, none⟩ = some (.int .i64 ir) := hB1.cell_ rfl
    have p4 : wc.cell? ⟨w.heap.size, 4, none⟩ = some (.int .i64 jn) := hB1.cell_ rfl
    have p5 : wc.cell? ⟨w.heap.size, 5, none⟩ = some (.int .i64 bl) := hB1.cell_ rfl
    have p6 : wc.cell? ⟨w.heap.size, 6, none⟩ = some (.int .i64 st) := hB1.cell_ rfl
    have p7 : wc.cell? ⟨w.heap.size, 7, none⟩ = some (.int .i64 by_) := hB1.cell_ rfl
    replace hm0 := Lib.hid hm0
    replace hB1 := Lib.hid hB1
    go_upto_region 4 with fail
    rename World => w9
    go_cut [4] from 4 to 59 (fun s4 W => s4 = .bool false ∧ W = w9)
    case first =>
      have e1 : ¬ st = 0 ∨ (st = 0 ∧ ¬ by_ = 0) ∨ (st = 0 ∧ by_ = 0 ∧ ¬ 0 ≤ bl) ∨ (st = 0 ∧ by_ = 0 ∧ 0 ≤ bl ∧ ¬ bl ≤ 1000000) := by omega
      clear kw kb k1 k2 hm0 hB1 cp
      rcases e1 with c | ⟨rfl, c⟩ | ⟨rfl, rfl, c⟩ | ⟨rfl, rfl, ca, c⟩
      · go_wp2_with fail
        go_meet
        exact ⟨rfl, rfl⟩
      · go_wp2_with fail
        go_meet
        exact ⟨rfl, rfl⟩
      · go_wp2_with fail
        go_meet
        exact ⟨rfl, rfl⟩
      · go_wp2_with fail
        go_meet
        exact ⟨rfl, rfl⟩
    case rest =>
      obtain ⟨rfl, rfl⟩ := hcut
      clear cp
      go_wp2_with (refine wpList_load_row rfl 46 (.tmp 1) rfl w.heap.size rfl _ _ _ _ hB1.out Tryz.underlying46 rfl msg_sizeF ?_)
      with_reducible refine (kw.out _).mono ?_
      rintro e' w1 ⟨rfl, hm1⟩
      dsimp only
      have hB2 := Lib.hid (hB1.out.mod hm1 (fun h => h))
      have hm2 := Lib.hid (hm0.out.trans hm1)
      clear hm1
      have k1x := Lib.hid (k1.out w1 hm2.out)
      go_wp2_with fail
      with_reducible refine k1x.out.mono ?_
      rintro e' w2 ⟨rfl, hm3⟩
      dsimp only
      have hB3 := hB2.out.mod hm3 (fun h => h)
      have hm4 := Lib.hid (hm2.out.trans hm3)
      clear hm3
      replace hB3 := Lib.hid hB3
      go_wp2_with fail
      all_goals
        go_ret
        exact ⟨by simp_all, hm4.out⟩
end Go.Proofs.YtdekehhmjehicaaGreat
/-
  post.Right, where the entry alone may be.
-/
namespace Go.Proofs.YtdekehhmjehicaaGreat
set_option linter.unusedVariables false
set_option linter.unusedSimpArgs false
open Go.RowKit
theorem msg_size : (Tryz.prog.info? 46).map (·.size) = some 20 := by kernel_rfl
set_option maxRecDepth 100000 in
set_option maxHeartbeats 8000000 in
theorem rightM_t (w : World) (f t kd ir jn bl st by_ : Int) (e : En) (L D : SV) (c1 : 0 ≤ f) (c2 : f ≤ 6) (c3 : 0 ≤ t) (c4 : t ≤ 6) (c5 : ¬ f = t) (c6 : ¬ kd < 1) (c7 : ¬ 9 < kd) (hE : EnM w e L D) (hL : L.n ≤ 140737488355328) (hD : D.n ≤ 140737488355328) (hk : (Lit.int .i64 e.o.k).wf = true) (hz : ∀ l ∈ e.o.legs, (txt l.n).size ≤ maxLen) (hs : st = 0) (hb : by_ = 0) (ca : 0 ≤ bl) (cb : bl ≤ 1000000) :
    Calls Tryz.prog 24 #[.agg #[.int .i64 f, .int .i64 t, .int .i64 kd, .int .i64 ir, .int .i64 jn, .int .i64 bl, .int .i64 st, .int .i64 by_, .int .i64 e.o.c, .int .i64 e.o.s, .int .i64 e.o.k, .string (txt e.o.acct), .string (txt e.o.peer), .int .i64 e.o.sum, .slice L.a L.n L.c, .int .i64 e.o.per, .int .i64 e.o.hold, .string (txt e.o.note), .bool e.none, .slice D.a D.n D.c]] w fun e' w' => e' = .returned (.bool (rightR ⟨⟨ir, jn⟩, bl, 0, 0, e⟩ || rightR ⟨⟨ir, jn⟩, 0, 3, 0, e⟩)) ∧ Mod none_ w w' := by
  subst hs hb
  have d8 : (f == t) = false := by simp; omega
  have d9 : (f != t) = true := by simp; omega
  have hm0 := Lib.hid ((Mod.refl none_ w).alloc (.cells #[.int .i64 f, .int .i64 t, .int .i64 kd, .int .i64 ir, .int .i64 jn, .int .i64 bl, .int .i64 0, .int .i64 0, .int .i64 e.o.c, .int .i64 e.o.s, .int .i64 e.o.k, .string (txt e.o.acct), .string (txt e.o.peer), .int .i64 e.o.sum, .slice L.a L.n L.c, .int .i64 e.o.per, .int .i64 e.o.hold, .string (txt e.o.note), .bool e.none, .slice D.a D.n D.c] 46))
  have hB1 := Lib.hid (Blk.new w 46 #[.int .i64 f, .int .i64 t, .int .i64 kd, .int .i64 ir, .int .i64 jn, .int .i64 bl, .int .i64 0, .int .i64 0, .int .i64 e.o.c, .int .i64 e.o.s, .int .i64 e.o.k, .string (txt e.o.acct), .string (txt e.o.peer), .int .i64 e.o.sum, .slice L.a L.n L.c, .int .i64 e.o.per, .int .i64 e.o.hold, .string (txt e.o.note), .bool e.none, .slice D.a D.n D.c])
  have kw := Lib.hid (fun W => whole_ok W ⟨f, t, kd, ⟨⟨ir, jn⟩, bl, 0, 0, e⟩⟩ L D)
  have kb := Lib.hid (fun W => bareM_ok W ⟨f, t, kd, ⟨⟨ir, jn⟩, bl, 0, 0, e⟩⟩ L D)
  have k1 := Lib.hid (fun W (h : Mod none_ w W) => rightR_ok W ⟨⟨ir, jn⟩, bl, 0, 0, e⟩ L D (hE.mod0 h) hL hD hk hz)
  have k2 := Lib.hid (fun W (h : Mod none_ w W) => rightR_ok W ⟨⟨ir, jn⟩, 0, 3, 0, e⟩ L D (hE.mod0 h) hL hD hk hz)
  dsimp only at kw kb k1 k2
  generalize rightR ⟨⟨ir, jn⟩, bl, 0, 0, e⟩ = r1 at *
  generalize rightR ⟨⟨ir, jn⟩, 0, 3, 0, e⟩ = r2 at *
  replace hE := Lib.hid hE
  replace hk := Lib.hid hk
  replace hz := Lib.hid hz
  go_enter Tryz.func24, Tryz.ntmps24
  go_upto_region 1 with fail
  go_cut [1, 2, 3] from 0 to 29 (fun s1 s2 s3 W => s1 = .pointer (some ⟨w.heap.size, 0, none⟩) ∧ s2 = .bool false ∧ s3 = .bool true ∧ Mod none_ w W ∧ Blk W w.heap.size 46 #[.int .i64 f, .int .i64 t, .int .i64 kd, .int .i64 ir, .int .i64 jn, .int .i64 bl, .int .i64 0, .int .i64 0, .int .i64 e.o.c, .int .i64 e.o.s, .int .i64 e.o.k, .string (txt e.o.acct), .string (txt e.o.peer), .int .i64 e.o.sum, .slice L.a L.n L.c, .int .i64 e.o.per, .int .i64 e.o.hold, .string (txt e.o.note), .bool e.none, .slice D.a D.n D.c])
  case first =>
    go_wp2_with fail
    go_meet
    exact ⟨rfl, rfl, rfl, hm0.out, hB1.out⟩
  case rest =>
    clear hm0 hB1
    obtain ⟨rfl, rfl, rfl, hm0, hB1⟩ := hcut
    have p0 : wc.cell? ⟨w.heap.size, 0, none⟩ = some (.int .i64 f) := hB1.cell_ rfl
    have p1 : wc.cell? ⟨w.heap.size, 1, none⟩ = some (.int .i64 t) := hB1.cell_ rfl
    have p2 : wc.cell? ⟨w.heap.size, 2, none⟩ = some (.int .i64 kd) := hB1.cell_ rfl
    have p3 : wc.cell? ⟨w.heap.size, 3, none⟩ = some (.int .i64 ir) := hB1.cell_ rfl
    have p4 : wc.cell? ⟨w.heap.size, 4, none⟩ = some (.int .i64 jn) := hB1.cell_ rfl
    have p5 : wc.cell? ⟨w.heap.size, 5, none⟩ = some (.int .i64 bl) := hB1.cell_ rfl
    have p6 : wc.cell? ⟨w.heap.size, 6, none⟩ = some (.int .i64 0) := hB1.cell_ rfl
    have p7 : wc.cell? ⟨w.heap.size, 7, none⟩ = some (.int .i64 0) := hB1.cell_ rfl
    replace hm0 := Lib.hid hm0
    replace hB1 := Lib.hid hB1
    go_wp2_with (refine wpList_load_row rfl 46 (.tmp 1) rfl w.heap.size rfl _ _ _ _ hB1.out Tryz.underlying46 rfl msg_size ?_)
    with_reducible refine (kw.out _).mono ?_
    rintro e' w1 ⟨rfl, hm1⟩
    dsimp only
    have hB2 := Lib.hid (hB1.out.mod hm1 (fun h => h))
    have hm2 := Lib.hid (hm0.out.trans hm1)
    clear hm1
    have k1x := Lib.hid (k1.out w1 hm2.out)
    go_wp2_with fail
    with_reducible refine k1x.out.mono ?_
    rintro e' w2 ⟨rfl, hm3⟩
    dsimp only
    have hB3 := hB2.out.mod hm3 (fun h => h)
    have hm4 := Lib.hid (hm2.out.trans hm3)
    clear hm3
    replace hB3 := Lib.hid hB3
    cases r1 with
    | true =>
      go_wp2_with fail
      go_ret
      exact ⟨rfl, hm4.out⟩
    | false =>
      go_wp2_with (refine wpList_step (fun K hK => ?_); rw [if_pos (by rfl)]; refine wp_load_row 46 (.tmp 1) rfl w.heap.size rfl _ _ _ _ hB3.out Tryz.underlying46 rfl msg_size ?_; refine hK _ _ ?_)
      with_reducible refine (kb.out _).mono ?_
      rintro e' w3 ⟨rfl, hm5⟩
      dsimp only
      have hm6 := Lib.hid (hm4.out.trans hm5)
      clear hm5
      have k2x := Lib.hid (k2.out w3 hm6.out)
      go_wp2_with fail
      with_reducible refine k2x.out.mono ?_
      rintro e' w4 ⟨rfl, hm7⟩
      dsimp only
      have hm8 := Lib.hid (hm6.out.trans hm7)
      clear hm7
      go_wp2_with fail
      go_ret
      exact ⟨rfl, hm8.out⟩
end Go.Proofs.YtdekehhmjehicaaGreat
/-
  post.Right, joined.
-/
namespace Go.Proofs.YtdekehhmjehicaaGreat
set_option linter.unusedVariables false
set_option linter.unusedSimpArgs false
open Go.RowKit
theorem rightM_ok (w : World) (m : Mg) (L D : SV) (hE : EnM w m.r.e L D) (hL : L.n ≤ 140737488355328) (hD : D.n ≤ 140737488355328) (hk : (Lit.int .i64 m.r.e.o.k).wf = true) (hz : ∀ l ∈ m.r.e.o.legs, (txt l.n).size ≤ maxLen) :
    Calls Tryz.prog 24 #[.agg #[.int .i64 m.frm, .int .i64 m.to, .int .i64 m.kind, .int .i64 m.r.i.r, .int .i64 m.r.i.n, .int .i64 m.r.bal, .int .i64 m.r.st, .int .i64 m.r.by_, .int .i64 m.r.e.o.c, .int .i64 m.r.e.o.s, .int .i64 m.r.e.o.k, .string (txt m.r.e.o.acct), .string (txt m.r.e.o.peer), .int .i64 m.r.e.o.sum, .slice L.a L.n L.c, .int .i64 m.r.e.o.per, .int .i64 m.r.e.o.hold, .string (txt m.r.e.o.note), .bool m.r.e.none, .slice D.a D.n D.c]] w fun e' w' => e' = .returned (.bool (rightM m)) ∧ Mod none_ w w' := by
  obtain ⟨f, t, kd, ⟨⟨ir, jn⟩, bl, st, by_, e⟩⟩ := m
  have hrm : rightM ⟨f, t, kd, ⟨⟨ir, jn⟩, bl, st, by_, e⟩⟩ = (decide (0 ≤ f ∧ f ≤ 6 ∧ 0 ≤ t ∧ t ≤ 6 ∧ ¬ f = t) && (decide (1 ≤ kd ∧ kd ≤ 9) && (rightR ⟨⟨ir, jn⟩, bl, st, by_, e⟩ || (decide (st = 0 ∧ by_ = 0 ∧ 0 ≤ bl ∧ bl ≤ 1000000) && rightR ⟨⟨ir, jn⟩, 0, 3, 0, e⟩)))) := rfl
  rw [hrm]
  by_cases h1 : 0 ≤ f ∧ f ≤ 6 ∧ 0 ≤ t ∧ t ≤ 6 ∧ ¬ f = t
  · obtain ⟨c1, c2, c3, c4, c5⟩ := h1
    rw [decide_eq_true (⟨c1, c2, c3, c4, c5⟩ : 0 ≤ f ∧ f ≤ 6 ∧ 0 ≤ t ∧ t ≤ 6 ∧ ¬ f = t), Bool.true_and]
    by_cases h2 : 1 ≤ kd ∧ kd ≤ 9
    · rw [decide_eq_true h2, Bool.true_and]
      by_cases h3 : st = 0 ∧ by_ = 0 ∧ 0 ≤ bl ∧ bl ≤ 1000000
      · obtain ⟨hs, hb, ca, cb⟩ := h3
        have := rightM_t w f t kd ir jn bl st by_ e L D c1 c2 c3 c4 c5 (by omega) (by omega) hE hL hD hk hz hs hb ca cb
        rw [decide_eq_true (⟨hs, hb, ca, cb⟩ : st = 0 ∧ by_ = 0 ∧ 0 ≤ bl ∧ bl ≤ 1000000), Bool.true_and]
        subst hs hb
        exact this
      · have := rightM_f w f t kd ir jn bl st by_ e L D c1 c2 c3 c4 c5 (by omega) (by omega) hE hL hD hk hz h3
        rw [decide_eq_false h3, Bool.false_and, Bool.or_false]
        exact this
    · rw [decide_eq_false h2, Bool.false_and]
      by_cases h3 : kd < 1
      · exact rightM_k1 w f t kd ir jn bl st by_ e L D c1 c2 c3 c4 c5 h3
      · exact rightM_k2 w f t kd ir jn bl st by_ e L D c1 c2 c3 c4 c5 h3 (by omega)
  · rw [decide_eq_false h1, Bool.false_and]
    by_cases c1 : 0 ≤ f
    · by_cases c2 : f ≤ 6
      · by_cases c3 : 0 ≤ t
        · by_cases c4 : t ≤ 6
          · exact rightM_e5 w f t kd ir jn bl st by_ e L D c1 c2 (by omega)
          · exact rightM_e4 w f t kd ir jn bl st by_ e L D c1 c2 c3 c4
        · exact rightM_e3 w f t kd ir jn bl st by_ e L D c1 c2 c3
      · exact rightM_e2 w f t kd ir jn bl st by_ e L D c1 c2
    · exact rightM_e1 w f t kd ir jn bl st by_ e L D c1
end Go.Proofs.YtdekehhmjehicaaGreat
