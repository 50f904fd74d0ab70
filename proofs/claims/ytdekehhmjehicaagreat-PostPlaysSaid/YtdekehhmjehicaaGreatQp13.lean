import Derived.Test.YtdekehhmjehicaaGreatQp12
import Derived.Test.YtdekehhmjehicaaGreatQp1
import Derived.Deep.RegionLaw
import Derived.ChangeAlike
import Derived.Deep.QuietTactic
import Derived.Deep.MidRow
import Derived.Laws.ResultCell
import Derived.Lib.SliceRun
import Derived.Laws.CopyOwn
import Derived.Deep.OwnRows
/-
  The contract of pack.Num. No condition.
-/
namespace Go.Proofs.YtdekehhmjehicaaGreat
set_option linter.unusedVariables false
set_option linter.unusedSimpArgs false
open Go.RowKit
theorem or128 : ∀ x : Nat, x < 256 → x ||| 128 = x % 128 + 128 := by decide +kernel
theorem bor8 (q : Nat) : bits .or .u8 ((q : Int) % 256) 128 = ((q % 128 + 128 : Nat) : Int) := by
  have e0 : (q : Int) % 256 = ((q % 256 : Nat) : Int) := by omega
  have e1 := or128 (q % 256) (by omega)
  rw [e0]
  show IntKind.u8.wrap ((BitVec.ofInt 8 ((q % 256 : Nat) : Int) ||| BitVec.ofInt 8 ((128 : Nat) : Int)).toNat : Int) = _
  rw [BitVec.toNat_or, ofInt_nat 8 (q % 256) (by omega), ofInt_nat 8 128 (by omega), e1, IntKind.wrap_u8]
  omega
theorem vbF_len : ∀ (f m : Nat), (vbF f m).length ≤ f := by
  intro f
  induction f with
  | zero => intro m; exact Nat.le_refl _
  | succ f ih => intro m; simp only [vbF]; split; simp; simp only [List.length_cons]; have := ih (m / 128); omega
theorem vb_len (m : Nat) : (vb m).length ≤ 10 := vbF_len 10 m
theorem vb_pos (m : Nat) : 0 < (vb m).length := by unfold vb vbF; split <;> simp
def NumOk (t q : Nat) : Prop := q < 2 ^ (64 - 7 * t)
def NumRel (w : World) (M : Nat) (q : Nat) (v : Value) (wr : World) : Prop :=
  ∃ A t c pre, v = .slice A t c ∧ OwB wr 5 A t c pre ∧ Fresh w A ∧ Mod none_ w wr ∧ pre ++ vbF (10 - t) q = vb M ∧ NumOk t q ∧ t ≤ 9
theorem num_step {t q : Nat} (ht : t ≤ 9) (hq : NumOk t q) (h : 128 ≤ q) : t ≤ 8 ∧ NumOk (t + 1) (q / 128) ∧ vbF (10 - t) q = by_ (q % 128 + 128) :: vbF (10 - (t + 1)) (q / 128) := by
  unfold NumOk at hq ⊢
  have h8 : t ≤ 8 := by
    rcases Nat.lt_or_ge t 9 with h1 | h1
    · omega
    · have : t = 9 := by omega
      subst this
      simp at hq; omega
  have e : 64 - 7 * t = 64 - 7 * (t + 1) + 7 := by omega
  rw [e, Nat.pow_add] at hq
  refine ⟨h8, Nat.div_lt_of_lt_mul (by rw [Nat.mul_comm]; exact hq), ?_⟩
  rw [show 10 - t = (10 - (t + 1)) + 1 by omega]
  simp only [vbF]
  rw [if_neg (by omega)]

theorem by_hi (q : Nat) : ((q : Int) % 128 + 128) = ((by_ (q % 128 + 128)).toNat : Int) := by rw [by_toNat]; omega
theorem by_lo {q : Nat} (h : q < 128) : (q : Int) = ((by_ q).toNat : Int) := by rw [by_toNat]; omega
theorem vbF_last {f q : Nat} (hf : 0 < f) (h : q < 128) : vbF f q = [by_ q] := by
  cases f with
  | zero => omega
  | succ f => simp only [vbF]; rw [if_pos h]
def NumPost (w : World) (n : Int) (e : Ending) (w' : World) : Prop := ∃ A k c, e = .returned (.slice A k c) ∧ OwB w' 5 A k c (vb (zig n)) ∧ Fresh w A ∧ Mod none_ w w' ∧ k ≤ 10
set_option maxRecDepth 100000 in
set_option maxHeartbeats 1000000 in
theorem num_ok (w : World) (n : Int) (h1 : -9223372036854775808 ≤ n) (h2 : n ≤ 9223372036854775807) : Calls Tryz.prog 53 #[.int .i64 n] w (NumPost w n) := by
  have hz := zig_lt h1 h2
  go_enter Tryz.func53, Tryz.ntmps53
  go_wp2_with fail
  refine (fold_ok _ n h1 h2).mono ?_
  rintro e w1 ⟨rfl, rfl⟩
  obtain ⟨M, hM⟩ : ∃ M, M = zig n := ⟨_, rfl⟩
  rw [← hM] at hz ⊢
  replace hM := Lib.hid hM
  go_wp2_with fail
  go_loopw [3, 4] (fun v x wr => ∃ q : Nat, x = .int .u64 q ∧ NumRel w M q v wr) (fun _ x _ => (intOf x).toNat)
  case atStart => exact ⟨M, rfl, none, 0, 0, [], rfl, Ow.nil _ _ _, (fun _ h => by cases h), Mod.refl _ w, rfl, by unfold NumOk; simpa using hz, by omega⟩
  case round =>
    obtain ⟨q, rfl, A, t, c, pre, rfl, ho, hf, hm, hpre, hq, ht⟩ := hrel
    have hb := bor8 q
    have hq64 : q < 18446744073709551616 := Nat.lt_of_lt_of_le hq (Nat.pow_le_pow_right (show 0 < 2 by omega) (show 64 - 7 * t ≤ 64 by omega))
    replace hq64 := Lib.hid hq64
    replace hz := Lib.hid hz
    replace ho := Lib.hid ho
    replace hf := Lib.hid hf
    replace hm := Lib.hid hm
    replace hpre := Lib.hid hpre
    by_cases hl : 128 ≤ q
    · obtain ⟨g1, g2, g3⟩ := num_step ht hq hl
      replace hq := Lib.hid hq
      replace g2 := Lib.hid g2
      replace g3 := Lib.hid g3
      go_wp2_with (at_builtin; refine app8 rfl (.tmp 11) (.tmp 15) rfl rfl (ho.out.mod0 ((Mod.refl none_ _).alloc _)) rfl (rdb_one _ _ (by_hi q)) (by omega) ?_; intro A' c' w' ho' hm' hA'; replace ho' := Lib.hid ho'; replace hm' := Lib.hid hm'; replace hA' := Lib.hid hA')
      go_roundw
      case rel =>
        refine ⟨q / 128, rfl, A', t + 1, c', pre ++ [by_ (q % 128 + 128)], rfl, ho'.out, Fresh.app hf.out (hm.out.alloc _).size hA'.out, (hm.out.alloc _).app hf.out hm'.out, ?_, g2.out, by omega⟩
        rw [← hpre.out, g3.out, List.append_assoc] <;> rfl
      case measure => simp [intOf]; omega
    · have hv : Hid (pre ++ [by_ q] = vb M) := by
        have := hpre.out
        rw [vbF_last (by omega) (by omega)] at this
        exact Lib.hid this
      go_wp2_with (at_builtin; go_loud (refine app8 rfl (.tmp 17) (.tmp 20) rfl rfl (ho.out.mod0 ((Mod.refl none_ _).alloc _)) rfl (rdb_one _ _ (by_lo (by omega))) (by omega) ?_; intro A' c' w' ho' hm' hA'; replace ho' := Lib.hid ho'; replace hm' := Lib.hid hm'; replace hA' := Lib.hid hA'))
      go_ret
      have h9 := ho'.out
      rw [hv.out, hM.out] at h9
      exact ⟨A', t + 1, c', rfl, h9, Fresh.app hf.out (hm.out.alloc _).size hA'.out, (hm.out.alloc _).app hf.out hm'.out, by omega⟩
end Go.Proofs.YtdekehhmjehicaaGreat
/-
  A reader of bytes: what its two cells and its rest hold; the contracts of fail, Left and Done. No condition.
-/
namespace Go.Proofs.YtdekehhmjehicaaGreat
set_option linter.unusedVariables false
set_option linter.unusedSimpArgs false
open Go.RowKit
/-- The reader in block g has the bytes l left, and the error e; its rest lies in block B. -/
def Rdr (w : World) (g B : Nat) (l : List UInt8) (e : Nat) : Prop :=
  ∃ A n c, Blk w g 98 #[.slice A n c, .int .i64 (e : Int)] ∧ RdB w A n l ∧ n ≤ c ∧ c ≤ 9223372036854775807 ∧ (∀ k, fp A k → k = B) ∧ g ≠ B
def only (g : Nat) : Nat → Prop := fun k => k = g
theorem Rdr.mod {w w' : World} {F : Nat → Prop} {g B : Nat} {l : List UInt8} {e : Nat} (h : Rdr w g B l e) (hm : Mod F w w') (h1 : ¬ F g) (h2 : ¬ F B) : Rdr w' g B l e := by
  obtain ⟨A, n, c, a1, a2, a3, a4, a5, a6⟩ := h
  exact ⟨A, n, c, a1.mod hm h1, a2.mod hm (fun k hk => by rw [a5 k hk]; exact h2), a3, a4, a5, a6⟩
theorem Rdr.mod0 {w w' : World} {g B : Nat} {l : List UInt8} {e : Nat} (h : Rdr w g B l e) (hm : Mod none_ w w') : Rdr w' g B l e := h.mod hm (fun hh => hh) (fun hh => hh)
theorem Rdr.empty {w : World} {g B : Nat} {e : Nat} (h : Blk w g 98 #[.slice none 0 0, .int .i64 (e : Int)]) (hB : g ≠ B) : Rdr w g B [] e :=
  ⟨none, 0, 0, h, Rd.none_, by omega, by omega, fun k hk => (by obtain ⟨a, ha, _⟩ := hk; cases ha), hB⟩
theorem Rdr.lt {w : World} {g B : Nat} {l : List UInt8} {e : Nat} (h : Rdr w g B l e) : g < w.heap.size := by
  obtain ⟨A, n, c, a1, _⟩ := h
  exact a1.lt
theorem Blk.two {w : World} {g : Nat} {t : TypeId} {a b : Value} (h : Blk w g t #[a, b]) : w.cell? ⟨g, 0, none⟩ = some a ∧ w.cell? ⟨g, 1, none⟩ = some b ∧ w.frozen? ⟨g, 0, none⟩ = false ∧ w.frozen? ⟨g, 1, none⟩ = false :=
  ⟨h.cell_ rfl, h.cell_ rfl, h.frozen 0, h.frozen 1⟩
theorem Mod.refl_only (w : World) (g : Nat) : Mod (only g) w w := Mod.refl _ w
theorem Mod.set_only {w w' : World} {g : Nat} (h : Mod (only g) w w') (o : Nat) (u : Value) : Mod (only g) w (w'.setCell ⟨g, o, none⟩ u) := h.setCell (p := ⟨g, o, none⟩) (.inl rfl) u

def FailPost (w : World) (g B e : Nat) (en : Ending) (w' : World) : Prop := en = .returned (.int .i64 (e : Int)) ∧ Rdr w' g B [] e ∧ Mod (only g) w w'
set_option maxRecDepth 100000 in
theorem fail_ok (w : World) (g B e : Nat) (a b : Value) (h : Blk w g 98 #[a, b]) (hB : g ≠ B) : Calls Tryz.prog 55 #[.pointer (some ⟨g, 0, none⟩), .int .i64 (e : Int)] w (FailPost w g B e) := by
  obtain ⟨h1, h2, h3, h4⟩ := h.two
  replace h := Lib.hid h
  go_enter Tryz.func55, Tryz.ntmps55
  go_wp2
  go_ret
  exact ⟨rfl, Rdr.empty ((h.out.set_ 0 _).set_ 1 _) hB, ((Mod.refl _ w).set_only 0 _).set_only 1 _⟩
/-- What Done tells. -/
def dn (l : List UInt8) (e : Nat) : Nat := if e ≠ 0 then e else if 0 < l.length then 3 else 0
def DonePost (w : World) (g : Nat) (l : List UInt8) (e : Nat) (en : Ending) (w' : World) : Prop := en = .returned (.int .i64 (dn l e : Nat)) ∧ Mod (only g) w w'
set_option maxRecDepth 100000 in
theorem done_ok (w : World) (g B e : Nat) (l : List UInt8) (h : Rdr w g B l e) : Calls Tryz.prog 42 #[.pointer (some ⟨g, 0, none⟩)] w (DonePost w g l e) := by
  obtain ⟨A, n, c, hb, hr, _, _, _, hB⟩ := h
  obtain ⟨h1, h2, h3, h4⟩ := hb.two
  have hl := hr.len
  subst hl
  replace hr := Lib.hid hr
  replace hb := Lib.hid hb
  by_cases he : e = 0
  · subst he
    by_cases hn : 0 < l.length
    · go_enter Tryz.func42, Tryz.ntmps42
      go_wp2_with fail
      refine (fail_ok _ g B 3 _ _ hb.out hB).mono ?_
      rintro en w1 ⟨rfl, _, hm⟩
      go_wp2
      go_ret
      exact ⟨by simp [dn, hn], hm⟩
    · go_enter Tryz.func42, Tryz.ntmps42
      go_wp2
      go_ret
      exact ⟨by simp [dn, hn], Mod.refl _ w⟩
  · have he1 : ((e : Int) != 0) = true := by simp; omega
    go_enter Tryz.func42, Tryz.ntmps42
    go_wp2
    go_ret
    exact ⟨by simp [dn, he], Mod.refl _ w⟩
set_option maxRecDepth 100000 in
theorem done_nil (w : World) : Calls Tryz.prog 42 #[.pointer none] w fun en w' => en = .returned (.int .i64 1) ∧ w = w' := by
  go_enter Tryz.func42, Tryz.ntmps42
  go_wp2
  go_ret
  exact ⟨rfl, rfl⟩
end Go.Proofs.YtdekehhmjehicaaGreat
/-
  Variables of structs, known whole ('Blk'): loads and stores of parts; results that lie in one. No condition.
-/
namespace Go.Proofs.YtdekehhmjehicaaGreat
set_option linter.unusedVariables false
set_option linter.unusedSimpArgs false
open Go.RowKit
theorem Blk.range {w : World} {g : Nat} {t : TypeId} {cs : Array Value} (h : Blk w g t cs) (o : Nat) (vs : List Value) (hv : (cs.toList.drop o).take vs.length = vs) : w.rangeAt g o vs := fun j v hj => by
  refine h.cell_ ?_
  have hl : j < vs.length := by
    rcases Nat.lt_or_ge j vs.length with h1 | h1
    · exact h1
    · rw [List.getElem?_eq_none h1] at hj; cases hj
  rw [← hv, List.getElem?_take, if_pos hl, List.getElem?_drop] at hj
  simpa using hj
theorem Blk.there {w : World} {g : Nat} {t : TypeId} {cs : Array Value} (h : Blk w g t cs) (o n : Nat) (hn : o + n ≤ cs.size) : w.there g o n := fun j hj =>
  ⟨by rw [h.cell, Array.getElem?_eq_getElem (by omega)] <;> rfl, h.frozen _⟩
def setL (cs : Array Value) (o : Nat) : List Value → Array Value
  | [] => cs
  | v :: vs => setL (cs.setIfInBounds o v) (o + 1) vs
theorem Blk.setCells {g : Nat} {t : TypeId} : ∀ (vs : List Value) (w : World) (cs : Array Value) (o : Nat), Blk w g t cs → Blk (w.setCells g o vs) g t (setL cs o vs)
  | [], _, _, _, h => h
  | v :: vs, w, cs, o, h => Blk.setCells vs _ _ (o + 1) (h.set_ o v)
theorem Mod.setCells {F : Nat → Prop} {g : Nat} : ∀ (vs : List Value) (w w' : World) (o : Nat), Mod F w w' → F g → Mod F w (w'.setCells g o vs)
  | [], _, _, _, h, _ => h
  | v :: vs, w, w', o, h, hg => Mod.setCells vs w _ (o + 1) (h.setCell (p := ⟨g, o, none⟩) (.inl hg) v) hg
theorem setL_toList : ∀ (vs : List Value) (cs : Array Value) (o : Nat), o + vs.length ≤ cs.size → (setL cs o vs).toList = cs.toList.take o ++ (vs ++ cs.toList.drop (o + vs.length))
  | [], cs, o, _ => by simp [setL]
  | v :: vs, cs, o, h => by
    simp only [List.length_cons] at h
    rw [setL, setL_toList vs _ (o + 1) (by simp only [Array.size_setIfInBounds]; omega)]
    apply List.ext_getElem?
    intro i
    simp only [Array.toList_setIfInBounds, List.getElem?_append, List.length_take, List.length_set, Array.length_toList, List.getElem?_take, List.getElem?_set, List.getElem?_drop, List.length_cons, List.cons_append]
    have h1 : min (o + 1) cs.size = o + 1 := by omega
    have h2 : min o cs.size = o := by omega
    rw [h1, h2]
    by_cases c1 : i < o
    · rw [if_pos (by omega), if_pos (by omega), if_neg (by omega), if_pos c1, if_pos c1]
    · by_cases c2 : i = o
      · subst c2
        rw [if_pos (by omega), if_pos (by omega), if_pos rfl, if_pos (by omega), if_neg (by omega)]
        simp
      · rw [if_neg (by omega), if_neg c1]
        obtain ⟨d, rfl⟩ : ∃ d, i = o + 1 + d := ⟨i - (o + 1), by omega⟩
        rw [show o + 1 + d - (o + 1) = d by omega, show o + 1 + d - o = d + 1 by omega]
        by_cases c3 : d < vs.length
        · rw [if_pos c3, List.getElem?_cons_succ, List.getElem?_append_left c3]
        · rw [if_neg c3, List.getElem?_cons_succ, List.getElem?_append_right (by omega), List.getElem?_drop, if_neg (by omega)]
          congr 1; omega
section
variable {P : Program}
/-- a load of a part of a variable -/
theorem wpList_load_blk {ops : Array Oper} {rest : List Oper} {op : Oper} {a : Act} {w : World} {Q : Exit → Act → World → Prop} (hgd : op.guard = none) (ty : TypeId) (x : Operand) (ho : op.op = .load ty x)
    (g o : Nat) (hx : a.eval x = .pointer (some ⟨g, o, none⟩)) {t : TypeId} {cs : Array Value} (hb : Blk w g t cs) (vs : List Value) (hv : (cs.toList.drop o).take vs.length = vs) {d : TypeDesc} (hu : P.underlying ty = some d) (hd : d.isRow = true)
    (hi : (P.info? ty).map (·.size) = some vs.length) (h : wpList P ops Q rest (a.put op.dst (.agg vs.toArray)) w) : wpList P ops Q (op :: rest) a w :=
  wpList_load_mid hgd ty x ho g o hx vs d (hb.range o vs hv) hu hd hi h
/-- a store of a part of a variable -/
theorem wpList_store_blk {ops : Array Oper} {rest : List Oper} {op : Oper} {a : Act} {w : World} {Q : Exit → Act → World → Prop} (hgd : op.guard = none) (ty : TypeId) (x y : Operand) (ho : op.op = .store ty x y)
    (g o : Nat) (cells : Array Value) (hx : a.eval x = .pointer (some ⟨g, o, none⟩)) (hy : a.eval y = .agg cells) {t : TypeId} {cs : Array Value} (hb : Blk w g t cs) (hn : o + cells.size ≤ cs.size)
    (hi : (P.info? ty).map (·.size) = some cells.size) (h1 : cells.toList.all (·.oneCell') = true) (cs' : Array Value) (hcs : cs.toList.take o ++ (cells.toList ++ cs.toList.drop (o + cells.size)) = cs'.toList)
    (h : ∀ w', Blk w' g t cs' → Mod (only g) w w' → wpList P ops Q rest (a.put op.dst undef) w') : wpList P ops Q (op :: rest) a w :=
  wpList_store_mid hgd ty x y ho g o cells hx hy (hb.there o _ hn) hi (by rw [← Array.all_toList]; exact h1) (h _ (by have e := setL_toList cells.toList cs o (by simpa using hn); rw [Array.length_toList, hcs, Array.toList_inj] at e; rw [← e]; exact Blk.setCells _ _ _ _ hb) (Mod.setCells _ _ _ _ (Mod.refl _ w) rfl))
theorem results_row_tmp {fn : Func} {p u : Tmp} {ty : TypeId} (h : fn.results = #[.cell p ty, .tmp u]) (tmps : Array Value) (w : World) (g : Nat) (t : TypeId) (cs : Array Value) (d : TypeDesc)
    (hp : tmps.getD p undef = .pointer (some ⟨g, 0, none⟩)) (hg : Blk w g t cs) (hu : P.underlying ty = some d) (hd : (match d with | .struct _ | .array _ _ => true | _ => false) = true) (hi : (P.info? ty).map (·.size) = some cs.size) :
    (results fn tmps).run P w = .ok (.tuple #[.agg cs, tmps.getD u undef]) w := by
  rw [results_cell_tmp h, hp]
  simp [asAddr, run_loadVar_row w g t ty cs (0, 0) d hg hu hd hi, Result.andThen]
/-- the end of a function whose results are a struct in a block and a scalar -/
theorem ret_row_tmp {fn : Func} {p u : Tmp} {ty : TypeId} (h : fn.results = #[.cell p ty, .tmp u]) {a : Act} {w : World} {R : Ending → World → Prop} (g : Nat) {t : TypeId} {cs : Array Value} (hp : a.tmps.getD p undef = .pointer (some ⟨g, 0, none⟩))
    (hg : Blk w g t cs) {d : TypeDesc} (hu : P.underlying ty = some d) (hd : (match d with | .struct _ | .array _ _ => true | _ => false) = true) (hi : (P.info? ty).map (·.size) = some cs.size) (v : Value) (hv : a.tmps.getD u undef = v) (hdf : a.defers = [])
    (hR : R (.returned (.tuple #[.agg cs, v])) w) : bodyPost P fn R .ret a w :=
  bodyPost_ret (results_row_tmp h a.tmps w g t cs d hp hg hu hd hi) hdf (by rw [hv]; exact hR)
theorem ret_row {fn : Func} {p : Tmp} {ty : TypeId} (h : fn.results = #[.cell p ty]) {a : Act} {w : World} {R : Ending → World → Prop} (g : Nat) {t : TypeId} {cs : Array Value} (hp : a.tmps.getD p undef = .pointer (some ⟨g, 0, none⟩))
    (hg : Blk w g t cs) {d : TypeDesc} (hu : P.underlying ty = some d) (hd : (match d with | .struct _ | .array _ _ => true | _ => false) = true) (hi : (P.info? ty).map (·.size) = some cs.size) (hdf : a.defers = [])
    (hR : R (.returned (.agg cs)) w) : bodyPost P fn R .ret a w :=
  bodyPost_ret (results_cell_row h a.tmps w g t cs (0, 0) d hp hg hu hd hi) hdf hR
end
/-- what is new to a world that was: a step within it -/
theorem Mod.in_new {w w1 w2 : World} {g : Nat} (h : Mod none_ w w1) (hg : w.heap.size ≤ g) (k : Mod (only g) w1 w2) : Mod none_ w w2 :=
  h.then k fun i hi hk => by have : i = g := hk; omega
end Go.Proofs.YtdekehhmjehicaaGreat
/-
  Rows of messages that are changed in place: a store of one, the clearing of a tail; messages' lists far from what changes. No condition.
-/
namespace Go.Proofs.YtdekehhmjehicaaGreat
set_option linter.unusedVariables false
set_option linter.unusedSimpArgs false
open Go.RowKit
/-- a message's lists lie elsewhere -/
def FarM (F : Nat → Prop) (x : Ms) : Prop := (0 < x.L.n → ∀ k, fp x.L.a k → ¬ F k) ∧ (0 < x.D.n → ∀ k, fp x.D.a k → ¬ F k)
theorem FarM.en {F : Nat → Prop} {x : Ms} {w w' : World} (hf : FarM F x) (h : EnM w x.m.r.e x.L x.D) (hm : Mod F w w') : EnM w' x.m.r.e x.L x.D :=
  ⟨⟨Rd.mod' h.od.rd hm hf.1, h.od.cap⟩, Rd.mod' h.rd hm hf.2, h.cap⟩
theorem FarM.mono {F G : Nat → Prop} {x : Ms} (hf : FarM F x) (h : ∀ k, G k → F k) : FarM G x := ⟨fun h0 k hk hg => hf.1 h0 k hk (h k hg), fun h0 k hk hg => hf.2 h0 k hk (h k hg)⟩
def FarsM (F : Nat → Prop) (xs : List Ms) : Prop := ∀ x ∈ xs, FarM F x
theorem MsM.mod {F : Nat → Prop} {xs : List Ms} {w w' : World} (h : MsM w xs) (hf : FarsM F xs) (hm : Mod F w w') : MsM w' xs := fun x hx => (hf x hx).en (h x hx) hm
theorem MsM.mod0 {xs : List Ms} {w w' : World} (h : MsM w xs) (hm : Mod none_ w w') : MsM w' xs := fun x hx => (h x hx).mod0 hm
/-- what lies below a place is far from what is new -/
theorem farM_new {w : World} {x : Ms} (h : EnM w x.m.r.e x.L x.D) {F : Nat → Prop} (hF : ∀ k, F k → w.heap.size ≤ k) : FarM F x := by
  have b1 : ∀ {n : Nat} {A : Option Addr} {xs : List Value}, Rd w 2 A n xs → 0 < n → ∀ k, fp A k → k < w.heap.size := by
    intro n A xs hr hn k hk
    obtain ⟨a, e, rfl⟩ := hk
    obtain ⟨b, o, e', hc⟩ := hr.form hn (by omega)
    have hl : 0 < xs.length := by rw [hr.1]; omega
    have := hc 0 _ (List.getElem?_eq_getElem hl)
    rw [e] at e'
    cases e'
    exact World.block_lt_of_cell? w _ this
  exact ⟨fun h0 k hk hf => by have := b1 h.od.rd h0 k hk; have := hF k hf; omega, fun h0 k hk hf => by have := b1 h.rd h0 k hk; have := hF k hf; omega⟩
theorem farsM_new {w : World} {xs : List Ms} (h : MsM w xs) {F : Nat → Prop} (hF : ∀ k, F k → w.heap.size ≤ k) : FarsM F xs := fun x hx => farM_new (h x hx) hF
theorem msC_len (x : Ms) : (msC x).length = 20 := rfl
theorem mss_set : ∀ (ys : List Ms) (i : Nat) (x : Ms), i < ys.length → mss (ys.set i x) = (mss ys).take (i * 20) ++ (msC x ++ (mss ys).drop (i * 20 + 20)) := by
  intro ys
  induction ys with
  | nil => intro i x h; simp at h
  | cons y ys ih =>
    intro i x h
    cases i with
    | zero =>
      simp only [List.set_cons_zero, Nat.zero_mul, List.take_zero, List.nil_append, Nat.zero_add]
      show msC x ++ mss ys = msC x ++ (msC y ++ mss ys).drop 20
      rw [List.drop_append, msC_len, List.drop_of_length_le (by rw [msC_len]; exact Nat.le_refl _)]
      simp
    | succ i =>
      simp only [List.length_cons] at h
      have := ih i x (by omega)
      show msC y ++ mss (ys.set i x) = (msC y ++ mss ys).take ((i + 1) * 20) ++ (msC x ++ (msC y ++ mss ys).drop ((i + 1) * 20 + 20))
      have e1 : (msC y ++ mss ys).take ((i + 1) * 20) = msC y ++ (mss ys).take (i * 20) := by
        rw [List.take_append, List.take_of_length_le (l := msC y) (by rw [msC_len]; omega), msC_len, show (i + 1) * 20 - 20 = i * 20 by omega]
      have e2 : (msC y ++ mss ys).drop ((i + 1) * 20 + 20) = (mss ys).drop (i * 20 + 20) := by
        rw [List.drop_append, List.drop_of_length_le (l := msC y) (by rw [msC_len]; omega), msC_len, show (i + 1) * 20 + 20 - 20 = i * 20 + 20 by omega]
        simp
      rw [this, e1, e2]
      simp
theorem ow_setCells {w : World} {e : TypeId} {size n c g : Nat} {xs : List Value} (h : Ow w e size (some ⟨g, 0, none⟩) n c xs) (o : Nat) (vs : List Value) (ho : o + vs.length ≤ n * size) :
    Ow (w.setCells g o vs) e size (some ⟨g, 0, none⟩) n c (xs.take o ++ (vs ++ xs.drop (o + vs.length))) := by
  obtain ⟨h1, h2, h3, h4⟩ := h
  rcases h4 with ⟨h4, _⟩ | ⟨g', cur, h4, hb, h5, h6⟩
  · cases h4
  · cases h4
    have hns : n * size ≤ cur.size := Nat.le_trans (Nat.mul_le_mul_right _ h2) h5
    have hsz := setL_toList vs cur o (by omega)
    refine ⟨by simp only [List.length_append, List.length_take, List.length_drop]; omega, h2, h3, .inr ⟨g, _, rfl, Blk.setCells _ _ _ _ hb, ?_, ?_⟩⟩
    · have : (setL cur o vs).size = cur.size := by
        rw [← Array.length_toList, hsz]
        simp only [List.length_append, List.length_take, List.length_drop, Array.length_toList]; omega
      rw [this]; exact h5
    · rw [hsz, ← h6]
      apply List.ext_getElem?
      intro i
      have m1 : min o cur.size = o := by omega
      have m2 : min o (min (n * size) cur.size) = o := by omega
      by_cases hi : i < n * size
      · simp only [List.getElem?_take, List.getElem?_append, List.length_take, List.getElem?_drop, Array.length_toList, m1, m2, if_pos hi]
        by_cases c1 : i < o
        · simp only [if_pos c1]
        · simp only [if_neg c1]
          by_cases c2 : i - o < vs.length
          · simp only [if_pos c2]
          · simp only [if_neg c2]
            rw [if_pos (by omega)]
      · rw [List.getElem?_take, if_neg hi, List.getElem?_eq_none]
        simp only [List.length_append, List.length_take, List.length_drop, Array.length_toList]; omega
theorem owM_set {w : World} {g n c : Nat} {ys : List Ms} (h : OwM w (some ⟨g, 0, none⟩) n c ys) {i : Nat} (hi : i < n) (x : Ms) : OwM (w.setCells g (i * 20) (msC x)) (some ⟨g, 0, none⟩) n c (ys.set i x) := by
  have hl : ys.length = n := by have := h.1; rw [mss_length] at this; omega
  have := ow_setCells h (i * 20) (msC x) (by rw [msC_len]; omega)
  unfold OwM
  rw [mss_set ys i x (by omega)]
  exact this
theorem OwM.len {w : World} {A : Option Addr} {n c : Nat} {xs : List Ms} (h : OwM w A n c xs) : xs.length = n := by have := h.1; rw [mss_length] at this; omega
theorem OwM.take {w : World} {A : Option Addr} {n c : Nat} {xs : List Ms} (h : OwM w A n c xs) {k : Nat} (hk : k ≤ n) : OwM w A k c (xs.take k) := by
  have := Ow.take_ h hk
  have e : (mss xs).take (k * 20) = mss (xs.take k) := by
    have h0 : mss xs = mss (xs.take k) ++ mss (xs.drop k) := by rw [← mss_append, List.take_append_drop]
    rw [h0]
    have hl : (mss (xs.take k)).length = k * 20 := by rw [mss_length, List.length_take, h.len, Nat.min_eq_left hk]
    rw [List.take_append, hl, List.take_of_length_le (by omega)]
    simp
  rw [e] at this
  exact this
/-- 'clear' of what stands behind the first k -/
theorem run_clear_ow {P : Program} (w : World) (t e ty : TypeId) (z : Value) (size : Nat) (ht : P.underlying t = some (.slice e)) (hv : ∀ w, (zeroValue e).run P w = .ok z w) (hzs : z.cells.size = size) (hz1 : ∀ v ∈ z.cells.toList, v.oneCell' = true) (hs : 0 < size)
    (A : Option Addr) (n c : Nat) (xs : List Value) (hown : Ow w e size A n c xs) (k : Nat) (hk : k ≤ n) (S : Option Addr) (m d : Nat) (hm : m = n - k) (hS : 0 < m → S = A.map (·.add (k * size))) :
    ∃ w', (Builtin.clear_ #[t] ty #[.slice S m d]).run P w = .ok (.tuple #[]) w' ∧ Ow w' e size A k c (xs.take (k * size)) ∧ Mod (fp A) w w' := by
  rcases Nat.eq_zero_or_pos m with h0 | h0
  · subst h0
    refine ⟨w, ?_, Ow.take_ hown hk, Mod.refl _ w⟩
    cases S <;> simp [Builtin.clear_, run_underlying ht]
  · obtain ⟨g, cur, rfl, hb, h5, h6⟩ := hown.form (by omega)
    have hS' := hS h0
    have ea : (⟨g, 0, none⟩ : Addr).add (k * size) = ⟨g, k * size, none⟩ := add_lit g _
    simp only [Option.map_some, ea] at hS'
    subst hS'
    have hzl : (Builtin.zeroCells z.cells m).toList.length = m * size := by rw [Array.length_toList, size_zeroCells, hzs]
    have hcn : n * size ≤ c * size := Nat.mul_le_mul_right _ hown.2.1
    have hkm : k * size + m * size = n * size := by rw [← Nat.add_mul]; congr 1; omega
    have h1 : ∀ v ∈ (Builtin.zeroCells z.cells m).toList, v.oneCell' = true := by
      intro v hv'
      have : v ∈ z.cells.toList := by
        simp only [Builtin.zeroCells] at hv'
        simp at hv'
        obtain ⟨i, hi, rfl⟩ := hv'
        have hb2 : i % z.cells.size < z.cells.size := Nat.mod_lt _ (by omega)
        rw [getElem!_pos z.cells _ hb2]
        simp
      exact hz1 v this
    have hst := run_storeCells_cells (P := P) g (k * size) (Builtin.zeroCells z.cells m).toList 0 w
      (fun j hj => by rw [hzl] at hj; rw [Nat.add_zero, hb.cell, Array.getElem?_eq_getElem (by omega)] <;> rfl) (fun j hj => hb.frozen _) h1
    simp only [Nat.add_zero] at hst
    refine ⟨w.setCells g (k * size) (Builtin.zeroCells z.cells m).toList, ?_, ?_, Mod.setCells _ _ _ _ (Mod.refl _ w) ⟨_, rfl, rfl⟩⟩
    · obtain ⟨m', rfl⟩ : ∃ m', m = m' + 1 := ⟨m - 1, by omega⟩
      simp [Builtin.clear_, run_underlying ht, hv, hst]
    · have h7 := ow_setCells hown (k * size) (Builtin.zeroCells z.cells m).toList (by rw [hzl]; omega)
      have h8 := Ow.take_ h7 hk
      have e8 : (xs.take (k * size) ++ ((Builtin.zeroCells z.cells m).toList ++ xs.drop (k * size + (Builtin.zeroCells z.cells m).toList.length))).take (k * size) = xs.take (k * size) := by
        have hxl := hown.1
        have hl : (xs.take (k * size)).length = k * size := by rw [List.length_take]; omega
        rw [List.take_append, hl, List.take_of_length_le (by omega)]
        simp
      rw [e8] at h8
      exact h8
theorem zeroM_run (w : World) : (zeroValue 46).run Tryz.prog w = .ok zeroM w := by
  unfold zeroM
  kernel_rfl
theorem clearM {w : World} (ty : TypeId) {A : Option Addr} {n c : Nat} {xs : List Ms} (hown : OwM w A n c xs) (k : Nat) (hk : k ≤ n) (S : Option Addr) (m d : Nat) (hm : m = n - k) (hS : 0 < m → S = A.map (·.add (k * 20))) :
    ∃ w', (Builtin.clear_ #[27] ty #[.slice S m d]).run Tryz.prog w = .ok (.tuple #[]) w' ∧ OwM w' A k c (xs.take k) ∧ Mod (fp A) w w' := by
  obtain ⟨w', h1, h2, h3⟩ := run_clear_ow (P := Tryz.prog) w 27 46 ty zeroM 20 Tryz.underlying27 zeroM_run rfl (fun v hv => List.all_eq_true.1 (show zeroM.cells.toList.all (·.oneCell') = true from rfl) v hv) (by omega) A n c (mss xs) hown k hk S m d hm hS
  refine ⟨w', h1, ?_, h3⟩
  have e : (mss xs).take (k * 20) = mss (xs.take k) := by
    have h0 : mss xs = mss (xs.take k) ++ mss (xs.drop k) := by rw [← mss_append, List.take_append_drop]
    rw [h0]
    have hl : (mss (xs.take k)).length = k * 20 := by rw [mss_length, List.length_take, hown.len, Nat.min_eq_left hk]
    rw [List.take_append, hl, List.take_of_length_le (by omega)]
    simp
  unfold OwM
  rw [← e]
  exact h2
end Go.Proofs.YtdekehhmjehicaaGreat
/-
  Contracts of slices.Grow from nil and slices.Concat of two. No condition.
-/
namespace Go.Proofs.YtdekehhmjehicaaGreat
set_option linter.unusedVariables false
set_option linter.unusedSimpArgs false
open Go.RowKit

theorem run_append_zeros_nil {P : Program} (w : World) (t u ty e : TypeId) (k : IntKind) (i : TypeInfo) (z : Value) (ht : P.underlying t = some (.slice e)) (hu : P.underlying u = some (.int k)) (hi : P.info? e = some i) (hz : i.zero = some z)
    (n : Nat) (h0 : 0 < n) (h48 : n * i.bytes ≤ 281474976710656) (h63 : (n : Int) ≤ 9223372036854775807) (hs : 0 < i.size) :
    (Builtin.append_ #[t, u] ty #[.slice none 0 0, .int k (n : Int)]).run P w =
      .ok (.slice (some ⟨w.heap.size, 0, none⟩) n (grownCap w n 0 e)) (w.drew.alloc (.cells (Builtin.zeroCells z.cells n ++ Builtin.zeroCells z.cells (grownCap w n 0 e - n)) e)) := by
  have hn : n ≠ 0 := by omega
  have hw : IntKind.i64.wrap (n : Int) = n := IntWalk.i64_in _ (by omega)
  have h63' : ¬ (9223372036854775807 < (n : Int)) := by omega
  have h48' : ¬ (281474976710656 < Builtin.nextslicecap n 0 * i.bytes) := by rw [nextslicecap_zero h0]; omega
  have h48i : ¬ ((281474976710656 : Int) < (n : Int) * (i.bytes : Int)) := by
    have : ((n * i.bytes : Nat) : Int) ≤ 281474976710656 := by omega
    rw [Int.natCast_mul] at this
    omega
  have hneg : ¬ ((n : Int) < 0) := by omega
  have hns : ¬ n * i.size = 0 := Nat.ne_of_gt (Nat.mul_pos h0 hs)
  simp [Builtin.append_, run_underlying ht, run_underlying hu, sizeOf, typeInfo, zeroValue, hi, hz, Builtin.lenOf, hn, hw, asInt, asIntOf, hneg, h48i, h63', h48', hns, Question.forced, run_firstCells_none, newRow, grownCap]

theorem wpList_append_zeros_nil {P : Program} {w : World} {ops : Array Oper} {rest : List Oper} {o : Oper} {a : Act} {Q : Exit → Act → World → Prop} (hgd : o.guard = none) (s x : Operand) (t u : TypeId)
    (ho : o.op = .call { callee := .builtin .append, args := #[s, x], argTypes := #[t, u] }) (e : TypeId) (k : IntKind) (i : TypeInfo) (z : Value) (ht : P.underlying t = some (.slice e)) (hu : P.underlying u = some (.int k)) (hi : P.info? e = some i) (hz : i.zero = some z)
    (n : Nat) (h0 : 0 < n) (h48 : n * i.bytes ≤ 281474976710656) (h63 : (n : Int) ≤ 9223372036854775807) (hsz : 0 < i.size) (hs : a.eval s = .slice none 0 0) (hx : a.eval x = .int k (n : Int))
    (h : wpList P ops Q rest (a.put o.dst (.slice (some ⟨w.heap.size, 0, none⟩) n (grownCap w n 0 e))) (w.drew.alloc (.cells (Builtin.zeroCells z.cells n ++ Builtin.zeroCells z.cells (grownCap w n 0 e - n)) e))) :
    wpList P ops Q (o :: rest) a w :=
  wpList_plain hgd fun _ hK => by
    unfold Oper.wp execOp
    simp only [ho, resolve, invoke, builtin, Sem.run_bind, Sem.run_pure, Result.andThen_ok, List.map_toArray, List.map_cons, List.map_nil, hs, hx, run_append_zeros_nil w t u o.type e k i z ht hu hi hz n h0 h48 h63 hsz]
    exact hK _ _ h

set_option maxRecDepth 100000 in
/-- What Grow leaves: an empty row with room. -/
theorem grow_ok (w : World) (n : Nat) (hn : n ≤ 140737488355328) : Calls Tryz.prog 52 #[.slice none 0 0, .int .i64 (n : Int)] w fun e w' =>
    ∃ A' c', e = .returned (.slice A' 0 c') ∧ OwB w' 5 A' 0 c' [] ∧ Fresh w A' ∧ Mod none_ w w' := by
  obtain ⟨i0, hi, hz0, hz1, hz2⟩ := info_parts u8info
  rcases Nat.eq_zero_or_pos n with h0 | h0
  · subst h0
    go_enter Tryz.func52, Tryz.ntmps52
    go_wp2
    go_ret
    exact ⟨none, 0, rfl, Ow.nil _ _ _, (fun _ h => by cases h), Mod.refl _ _⟩
  · have hg1 := grownCap_le_maxLen w n 0 5 (by simp only [maxLen]; omega)
    have hg0 := grownCap_ge w n 0 5
    have hcl : ∀ c, c = grownCap w n 0 5 → c ≤ 9223372036854775807 := fun c hc => by rw [hc]; simpa [maxLen] using hg1
    go_enter Tryz.func52, Tryz.ntmps52
    go_wp2_with (at_builtin; refine wpList_append_zeros_nil rfl (.tmp 20) (.tmp 21) 59 3 rfl 5 .i64 i0 _ Tryz.underlying59 Tryz.underlying3 hi hz0 n h0 (by rw [hz2]; omega) (by omega) (by omega) rfl rfl ?_)
    go_ret
    refine ⟨some ⟨w.heap.size, 0, none⟩, grownCap w n 0 5, rfl, ⟨rfl, Nat.zero_le _, hg1, .inr ⟨w.heap.size, _, rfl, heap_alloc_new w.drew _, ?_, by simp [bvs]⟩⟩, ?_, ((Mod.refl none_ w).drew).alloc _⟩
    · simp only [Array.size_append, size_zeroCells, List.size_toArray, List.length_cons, List.length_nil]
      omega
    · intro a ha; cases ha; exact Nat.le_refl _

def pre2 (n1 n2 j : Nat) : Nat := if j = 0 then 0 else if j = 1 then n1 else n1 + n2
def cat2 (l1 l2 : List UInt8) (j : Nat) : List UInt8 := if j = 0 then [] else if j = 1 then l1 else l1 ++ l2
def CatRel (w : World) (n1 n2 : Nat) (l1 l2 : List UInt8) (j : Nat) (v : Value) (wr : World) : Prop :=
  ∃ A' c', v = .slice A' (pre2 n1 n2 j) c' ∧ OwB wr 5 A' (pre2 n1 n2 j) c' (cat2 l1 l2 j) ∧ Fresh w A' ∧ Mod none_ w wr
theorem CatRel.next {w wr w1 : World} {n1 n2 j k : Nat} {l1 l2 b : List UInt8} {A A' : Option Addr} {c' : Nat} (hF : Fresh w A) (hm : Mod none_ w wr)
    (hown : Ow w1 5 1 A' (pre2 n1 n2 j + k) c' (bvs (cat2 l1 l2 j) ++ bvs b)) (hmod : Mod (fp A) wr w1) (hA : A' = A ∨ A' = some ⟨wr.heap.size, 0, none⟩)
    (e1 : pre2 n1 n2 (j + 1) = pre2 n1 n2 j + k) (e2 : cat2 l1 l2 (j + 1) = cat2 l1 l2 j ++ b) : CatRel w n1 n2 l1 l2 (j + 1) (.slice A' (pre2 n1 n2 j + k) c') w1 := by
  refine ⟨A', c', by rw [e1], ?_, ?_, hm.then hmod fun i hi hf => ?_⟩
  · rw [e1, e2]
    show Ow _ _ _ _ _ _ (bvs _)
    rw [bvs_append]; exact hown
  · rintro a ha
    rcases hA with rfl | rfl
    · exact hF a ha
    · cases ha; exact hm.size
  · obtain ⟨a, ha, rfl⟩ := hf
    have := hF a ha
    omega

set_option maxRecDepth 100000 in
set_option maxHeartbeats 1000000 in
/-- Two texts of bytes, one behind the other. -/
theorem concat2_ok (w : World) (g : Nat) (B1 B2 : Option Addr) (n1 n2 d1 d2 : Nat) (l1 l2 : List UInt8) (hb : Rd w 1 (some ⟨g, 0, none⟩) 2 [.slice B1 n1 d1, .slice B2 n2 d2]) (h1 : RdB w B1 n1 l1) (h2 : RdB w B2 n2 l2) (hn : n1 + n2 ≤ 140737488355328) :
    Calls Tryz.prog 34 #[.slice (some ⟨g, 0, none⟩) 2 2] w fun e w' =>
    ∃ A' c', e = .returned (.slice A' (n1 + n2) c') ∧ OwB w' 5 A' (n1 + n2) c' (l1 ++ l2) ∧ Fresh w A' ∧ Mod none_ w w' := by
  obtain ⟨i0, hi, hz0, hz1, hz2⟩ := info_parts u8info
  obtain ⟨b, o, hbo, hc⟩ := hb.form (by omega) (by omega)
  cases hbo
  have c0 : w.cell? ⟨g, 0, none⟩ = some (.slice B1 n1 d1) := hc 0 _ rfl
  have c1 : w.cell? ⟨g, 1, none⟩ = some (.slice B2 n2 d2) := hc 1 _ rfl
  have H1 := Lib.hid h1
  have H2 := Lib.hid h2
  clear hb hc h1 h2
  go_enter Tryz.func34, Tryz.ntmps34
  go_wp2_with fail
  go_loop [3, 11] (fun s i => ∃ j : Nat, i = .int .i64 j ∧ s = .int .i64 (pre2 n1 n2 j : Nat) ∧ j ≤ 2) (fun _ i => 2 - (intOf i).toNat)
  case atStart => exact ⟨0, rfl, rfl, by omega⟩
  case round =>
    obtain ⟨j, rfl, rfl, hj⟩ := hrel
    by_cases j0 : j = 0
    · subst j0
      have e1 : pre2 n1 n2 0 = 0 := rfl
      go_wp2
      go_round
      case rel => exact ⟨1, rfl, by simp [pre2], by omega⟩
      case measure => simp [intOf]
    · by_cases j1 : j = 1
      · subst j1
        have e1 : pre2 n1 n2 1 = n1 := rfl
        go_wp2
        go_round
        case rel => exact ⟨2, rfl, by simp [pre2], by omega⟩
        case measure => simp [intOf]
      · obtain rfl : j = 2 := by omega
        have e1 : pre2 n1 n2 2 = n1 + n2 := rfl
        clear j0 j1 hj
        go_wp2_with fail
        have gr := grow_ok w (n1 + n2) hn
        rw [Int.natCast_add] at gr
        refine gr.mono ?_
        rintro e w1 ⟨A0, c0', rfl, ho0, hf0, hm0⟩
        have hr0 : CatRel w n1 n2 l1 l2 0 (.slice A0 0 c0') w1 := ⟨A0, c0', rfl, ho0, hf0, hm0⟩
        replace hr0 := Lib.hid hr0
        clear ho0 hf0 hm0 e1
        go_wp2_with fail
        go_loopw [6, 27] (fun v i wr => ∃ j : Nat, i = .int .i64 j ∧ CatRel w n1 n2 l1 l2 j v wr ∧ j ≤ 2) (fun _ i _ => 2 - (intOf i).toNat)
        case atStart => exact ⟨0, rfl, hr0.out, by omega⟩
        case round =>
          obtain ⟨j, rfl, ⟨A', c', rfl, hown, hF, hm⟩, hj⟩ := hrel
          have c0 := hm.cell_some c0 (fun hf => hf)
          have c1 := hm.cell_some c1 (fun hf => hf)
          replace hown := Lib.hid hown
          replace hF := Lib.hid hF
          replace hm := Lib.hid hm
          by_cases j0 : j = 0
          · subst j0
            go_wp2_with (at_builtin; refine wpList_append_ow rfl (.tmp 31) (.tmp 32) 59 rfl 5 i0 _ 1 1 Tryz.underlying59 hi hz0 hz1 hz2 rfl (by omega) A' _ c' (bvs (cat2 l1 l2 0)) rfl hown.out B1 n1 d1 (bvs l1) rfl (Rd.mod0 H1.out hm.out) (bvs_one l1) (by rw [show pre2 n1 n2 0 = 0 from rfl]; omega) (by rw [show pre2 n1 n2 0 = 0 from rfl]; omega) ?_; intro A1 c1' w1 hown1 hmod1 hA1)
            have hnext := CatRel.next (l2 := l2) (n2 := n2) hF.out hm.out hown1 hmod1 hA1 (by simp [pre2]) (by simp [cat2])
            replace hnext := Lib.hid hnext
            clear hown1 hmod1 hA1
            go_wp2
            go_roundw
            case rel => exact ⟨1, rfl, hnext.out, by omega⟩
            case measure => simp [intOf]
          · by_cases j1 : j = 1
            · subst j1
              go_wp2_with (at_builtin; refine wpList_append_ow rfl (.tmp 31) (.tmp 32) 59 rfl 5 i0 _ 1 1 Tryz.underlying59 hi hz0 hz1 hz2 rfl (by omega) A' _ c' (bvs (cat2 l1 l2 1)) rfl hown.out B2 n2 d2 (bvs l2) rfl (Rd.mod0 H2.out hm.out) (bvs_one l2) (by rw [show pre2 n1 n2 1 = n1 from rfl]; omega) (by rw [show pre2 n1 n2 1 = n1 from rfl]; omega) ?_; intro A1 c1' w1 hown1 hmod1 hA1)
              have hnext := CatRel.next hF.out hm.out hown1 hmod1 hA1 (by simp [pre2]) (by simp [cat2])
              replace hnext := Lib.hid hnext
              clear hown1 hmod1 hA1
              go_wp2
              go_roundw
              case rel => exact ⟨2, rfl, hnext.out, by omega⟩
              case measure => simp [intOf]
            · obtain rfl : j = 2 := by omega
              go_wp2
              go_ret
              exact ⟨A', c', rfl, hown.out, hF.out, hm.out⟩
end Go.Proofs.YtdekehhmjehicaaGreat
/-
  'make' of a row of one-cell elements, and 'copy' that fills a whole row. No condition.
-/
namespace Go.Proofs.YtdekehhmjehicaaGreat
set_option linter.unusedVariables false
set_option linter.unusedSimpArgs false
open Go.RowKit
theorem copy_all {P : Program} {w : World} {ops : Array Oper} {rest : List Oper} {o : Oper} {a : Act} {Q : Exit → Act → World → Prop} (hgd : o.guard = none) (d s : Operand) (dT sT elem : TypeId)
    (ho : o.op = .call { callee := .builtin .copy, args := #[d, s], argTypes := #[dT, sT] }) (hu : P.underlying dT = some (.slice elem)) (hsz : (P.info? elem).map (·.size) = some 1)
    {g n c1 c2 : Nat} {S : Option Addr} {xs : List Value} {cur : Array Value} (hd : a.eval d = .slice (some ⟨g, 0, none⟩) n c1) (hs : a.eval s = .slice S n c2) (hg : Blk w g elem cur) (hcur : cur.size = n) (hn : n ≤ maxLen)
    (hr : Rd w 1 S n xs) (h1 : ∀ u ∈ xs, u.oneCell' = true)
    (h : ∀ w', Ow w' elem 1 (some ⟨g, 0, none⟩) n n xs → Mod (fun k => k = g) w w' → wpList P ops Q rest (a.put o.dst (goInt n)) w') : wpList P ops Q (o :: rest) a w := by
  have hx : xs.length = n := by have := hr.1; omega
  rcases Nat.eq_zero_or_pos n with h0 | h0
  · subst h0
    refine wpList_copy_nothing hgd d s dT sT ho elem hu hsz _ _ _ _ _ _ hd hs (by simp) ?_
    have : xs = [] := List.eq_nil_of_length_eq_zero hx
    subst this
    exact h w ⟨by simp, by omega, by omega, .inr ⟨g, cur, rfl, hg, by omega, by simp⟩⟩ (Mod.refl _ w)
  · obtain ⟨ad, rfl, hc⟩ := hr.2 h0
    have hx2 := hx
    refine wpList_copy_own hgd d s dT sT ho elem hu hsz g 0 n c1 ad n c2 hd hs cur elem hg xs (by simp [hx]) hc (by omega) h1 ?_
    have e : (cur.toList.take 0 ++ (xs ++ cur.toList.drop (0 + xs.length))) = xs := by
      rw [List.drop_eq_nil_of_le (by simp; omega)]; simp
    rw [e, hx]
    refine h _ ⟨by omega, by omega, by omega, .inr ⟨g, xs.toArray, rfl, setRow_heap w g cur _ elem _ hg, by simp [hx], by simp [← hx]⟩⟩ ⟨rfl, rfl, rfl, by simp, fun k _ hk => setRow_other w g k _ (fun e => hk e)⟩
/-- 'make([]T, n)' as a rule of the walk. -/
theorem make_run {P : Program} (w : World) (t e : TypeId) (z : Value) (bytes n : Nat) (ht : P.underlying t = some (.slice e)) (hinfo : (P.info? e).map (fun i => (i.zero, i.size, i.bytes)) = some (some z, 1, bytes)) (hz1 : z.cells = #[z])
    (hbytes : bytes * n ≤ 281474976710656) (h63 : n ≤ 9223372036854775807) :
    (Instr.makeSlice t (.int .i64 (n : Int)) (.int .i64 (n : Int))).run P w = .ok (.slice (some ⟨w.heap.size, 0, none⟩) n n) (w.alloc (.cells (madeCells #[z] n) e)) :=
  run_make_row' t e z bytes ht hinfo hz1 .i64 .i64 n hbytes h63 w
end Go.Proofs.YtdekehhmjehicaaGreat
