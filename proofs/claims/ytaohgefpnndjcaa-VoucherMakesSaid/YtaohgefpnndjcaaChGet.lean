/-
  A chart in memory; the contracts of chart.New and Get.
-/
import Derived.Test.YtaohgefpnndjcaaChartP
import Derived.Lib.Hide
import Derived.Carry
namespace Go.Proofs.Ytaohgefpnndjcaa
set_option linter.unusedVariables false
open Go.RowKit
/-- a chart: the struct's block p, its map's block b, its accounts -/
def ChAt (w : World) (p b : Nat) (C : List Ac) : Prop := Blk w p 69 #[.map (some b)] ∧ MapAt w 9 b (ents C) ∧ p ≠ b
section
variable {F : Nat → Prop} {w w' : World} {p b : Nat} {C : List Ac}
theorem ChAt.mod (h : ChAt w p b C) (hm : Mod F w w') (hp : ¬ F p) (hb : ¬ F b) : ChAt w' p b C := ⟨h.1.mod hm hp, h.2.1.mod hm hb, h.2.2⟩
theorem ChAt.mod0 (h : ChAt w p b C) (hm : Mod none_ w w') : ChAt w' p b C := h.mod hm (fun h => h) (fun h => h)
theorem ChAt.alloc (h : ChAt w p b C) (o : Obj) : ChAt (w.alloc o) p b C := h.mod0 ((Mod.refl _ _).alloc o)
theorem ChAt.sorted (h : ChAt w p b C) : SortedC C := (sortedC_iff C).1 (h.2.1.sorted Try.underlying9)
end
theorem results_cell2 {fn : Func} {p u : Tmp} {ty : TypeId} (h : fn.results = #[.cell p ty, .tmp u]) (tmps : Array Value) (w : World) (g : Nat) (cs : Array Value)
    (hp : tmps.getD p undef = .pointer (some ⟨g, 0, none⟩)) (hl : (loadVar ty ⟨g, 0, none⟩).run Try.prog w = .ok (.agg cs) w) :
    (results fn tmps).run Try.prog w = .ok (.tuple #[.agg cs, tmps.getD u undef]) w := by
  have hp' : tmps[p]?.getD undef = .pointer (some ⟨g, 0, none⟩) := by simpa using hp
  simp [results, h, hp', asAddr, hl]
def NewPost (w : World) (e : Ending) (w' : World) : Prop := ∃ p b, e = .returned (.pointer (some ⟨p, 0, none⟩)) ∧ ChAt w' p b [] ∧ Mod none_ w w' ∧ w.heap.size ≤ p ∧ w.heap.size ≤ b
set_option maxRecDepth 100000 in
theorem new_ok (w : World) : Calls Try.prog 25 #[] w (NewPost w) := by
  go_enter Try.func25, Try.ntmps25
  have hmk := fun W => run_makeMap (P := Try.prog) 67 W
  go_wp2_with fail
  go_ret
  have e1 : (w.alloc (.map #[] 0)).heap.size = w.heap.size + 1 := by simp
  refine ⟨w.heap.size + 1, w.heap.size, rfl, ⟨?_, ?_, by omega⟩, ((Mod.refl _ _).alloc _).alloc _, by omega, Nat.le_refl _⟩
  · have := Blk.new (w.alloc (.map #[] 0)) 69 #[.map (some w.heap.size)]
    rw [e1] at this; exact this
  · exact (MapAt.made w _).alloc _
def zeroA : Value := .agg #[.string ⟨#[]⟩, .int .i64 0, .int .i64 0, .int .i64 0]
def getV (C : List Ac) (s : List UInt8) : Value × Int := match getC C s with | some a => (acV a, 0) | none => (zeroA, 6)
def GetPost (r : Value × Int) (w : World) (e : Ending) (w' : World) : Prop := e = .returned (.tuple #[r.1, .int .i64 r.2]) ∧ Mod none_ w w'
set_option maxRecDepth 100000 in
theorem zeroA_run (w : World) : (zeroValue 46).run Try.prog w = .ok zeroA w := by rfl
theorem acct_size : (Try.prog.info? 46).map (·.size) = some 4 := by kernel_rfl
/-- the end of a function whose first result is an account in a block -/
theorem ret_acct {fn : Func} {p u : Tmp} (h : fn.results = #[.cell p 46, .tmp u]) {a : Act} {w : World} {R : Ending → World → Prop} (g : Nat) (cs : Array Value) (hp : a.tmps.getD p undef = .pointer (some ⟨g, 0, none⟩))
    (hg : Blk w g 46 cs) (hs : cs.size = 4) (hd : a.defers = []) (hR : R (.returned (.tuple #[.agg cs, a.tmps.getD u undef])) w) : bodyPost Try.prog fn R .ret a w :=
  bodyPost_ret (results_cell2 h a.tmps w g cs hp (run_loadVar_row w g _ _ cs _ _ hg Try.underlying46 rfl (by rw [hs]; exact acct_size))) hd hR
set_option maxRecDepth 100000 in
theorem get_nil (w : World) (s : ByteArray) : Calls Try.prog 27 #[.pointer none, .string s] w (GetPost (zeroA, 1) w) := by
  go_enter Try.func27, Try.ntmps27
  go_wp2_with fail
  refine ret_acct rfl w.heap.size _ rfl (Blk.new _ _ _) rfl rfl ⟨rfl, (Mod.refl _ _).alloc _⟩
set_option maxRecDepth 100000 in
theorem get_ok (w : World) (p b : Nat) (C : List Ac) (s : ByteArray) (hc : ChAt w p b C) (hs : s.size ≤ maxLen) : Calls Try.prog 27 #[.pointer (some ⟨p, 0, none⟩), .string s] w (GetPost (getV C s.data.toList) w) := by
  have hp := hc.1.lt
  have hcell : w.cell? ⟨p, 0, none⟩ = some (.map (some b)) := hc.1.cell_ rfl
  have hf := find_ents C s.data.toList
  unfold getV
  cases hg : getC C s.data.toList with
  | none =>
    rw [hg] at hf
    replace hc := Lib.hid hc
    replace hs := Lib.hid hs
    replace hf := Lib.hid hf
    replace hg := Lib.hid hg
    go_enter Try.func27, Try.ntmps27
    go_wp2_with (refine map_look_ok _ rfl (.tmp 15) (.tmp 16) _ rfl 9 46 Try.underlying67 Try.underlying9 (zeroA_run _) b _ rfl (hc.out.2.1.alloc _) s hs.out rfl ?_; rw [hf.out]; simp only [Option.map_none, Option.getD_none, Option.isSome_none, zeroA])
    exact ret_acct rfl w.heap.size _ rfl ((Blk.new _ _ _).alloc _) rfl rfl ⟨rfl, ((Mod.refl _ _).alloc _).alloc _⟩
  | some a =>
    rw [hg] at hf
    replace hc := Lib.hid hc
    replace hs := Lib.hid hs
    replace hf := Lib.hid hf
    replace hg := Lib.hid hg
    go_enter Try.func27, Try.ntmps27
    go_wp2_with (refine map_look_ok _ rfl (.tmp 15) (.tmp 16) _ rfl 9 46 Try.underlying67 Try.underlying9 (zeroA_run _) b _ rfl (hc.out.2.1.alloc _) s hs.out rfl ?_; rw [hf.out]; simp only [Option.map_some, Option.getD_some, Option.isSome_some, acV])
    exact ret_acct rfl w.heap.size _ rfl ((Blk.new _ _ _).alloc _) rfl rfl ⟨rfl, ((Mod.refl _ _).alloc _).alloc _⟩
end Go.Proofs.Ytaohgefpnndjcaa
