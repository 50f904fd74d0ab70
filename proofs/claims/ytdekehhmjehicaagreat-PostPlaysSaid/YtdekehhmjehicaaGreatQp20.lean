import Derived.Test.YtdekehhmjehicaaGreatQp19
import Derived.Test.YtdekehhmjehicaaGreatQp1
import Derived.ProofKit
import Derived.OpenShut
import Derived.ChangeOld
import Derived.SizedLaws
import Derived.Deep.Slices
import Derived.Deep.Fields
import Derived.Test.YtdekehhmjehicaaGreatQp18
import Derived.Lib.SmallJoins
/-
  The references' SameAll of messages, SameInts, of what is the same. No condition.
-/
namespace Go.Proofs.YtdekehhmjehicaaGreat
set_option linter.unusedVariables false
set_option linter.unusedSimpArgs false
open Go.RowKit
theorem rangeM_mod {w w' : World} {g o : Nat} {vs : List Value} (h : w.rangeAt g o vs) (hm : Mod none_ w w') : w'.rangeAt g o vs := fun j v hv => hm.cell_some (h j v hv) (fun h => h)
set_option maxRecDepth 100000 in
set_option maxHeartbeats 4000000 in
theorem sameAll17_eq (w : World) (A B : Option Addr) (n c d : Nat) (xs : List Ms) (hA : RdM w A n xs) (hB : RdM w B n xs) (hE : MsM w xs) (hk : ∀ x ∈ xs, MsOk x) (hn : n ≤ 140737488355328) :
    Calls Tryz.prog 18 #[.slice A n c, .slice B n d] w fun e w' => e = .returned (.bool true) ∧ Mod none_ w w' := by
  have hz : ((n : Int) != (n : Int)) = false := by simp
  replace hA := Lib.hid hA
  replace hB := Lib.hid hB
  replace hE := Lib.hid hE
  replace hk := Lib.hid hk
  go_enter Tryz.func18, Tryz.ntmps18
  go_wp2_with fail
  go_loopg [5] n (fun gk y wr => ∃ j : Nat, y = .int .i64 j ∧ j + gk = n ∧ Mod none_ w wr)
  case atStart => exact ⟨0, rfl, by omega, Mod.refl _ _⟩
  case round =>
    obtain ⟨j, rfl, hj, hm⟩ := hrel
    by_cases hlt : j < n
    · obtain ⟨g, o, x, e1, hxm, hx, hrg⟩ := rdm_get (w := wr) (Rd.mod0 hA.out hm) hlt
      obtain ⟨g', o', y, e2, hym, hy, hrg'⟩ := rdm_get (w := wr) (Rd.mod0 hB.out hm) hlt
      subst e1 e2
      obtain rfl : y = x := by rw [hx] at hy; injection hy with hy; exact hy.symm
      have hEx := (hE.out y hxm).mod0 hm
      obtain ⟨q1, q2, _, _⟩ := hk.out y hxm
      unfold msC at hrg hrg'
      have hS0 : wr.drew.rangeAt g (o + j * 20) [.int .i64 y.m.frm, .int .i64 y.m.to, .int .i64 y.m.kind, .int .i64 y.m.r.i.r, .int .i64 y.m.r.i.n, .int .i64 y.m.r.bal, .int .i64 y.m.r.st, .int .i64 y.m.r.by_, .int .i64 y.m.r.e.o.c, .int .i64 y.m.r.e.o.s, .int .i64 y.m.r.e.o.k, .string (txt y.m.r.e.o.acct), .string (txt y.m.r.e.o.peer), .int .i64 y.m.r.e.o.sum, .slice y.L.a y.L.n y.L.c, .int .i64 y.m.r.e.o.per, .int .i64 y.m.r.e.o.hold, .string (txt y.m.r.e.o.note), .bool y.m.r.e.none, .slice y.D.a y.D.n y.D.c] ∧ wr.drew.rangeAt g' (o' + j * 20) [.int .i64 y.m.frm, .int .i64 y.m.to, .int .i64 y.m.kind, .int .i64 y.m.r.i.r, .int .i64 y.m.r.i.n, .int .i64 y.m.r.bal, .int .i64 y.m.r.st, .int .i64 y.m.r.by_, .int .i64 y.m.r.e.o.c, .int .i64 y.m.r.e.o.s, .int .i64 y.m.r.e.o.k, .string (txt y.m.r.e.o.acct), .string (txt y.m.r.e.o.peer), .int .i64 y.m.r.e.o.sum, .slice y.L.a y.L.n y.L.c, .int .i64 y.m.r.e.o.per, .int .i64 y.m.r.e.o.hold, .string (txt y.m.r.e.o.note), .bool y.m.r.e.none, .slice y.D.a y.D.n y.D.c] := ⟨hrg, hrg'⟩
      have k17 := Lib.hid (same17_eq wr.drew y.m y.L y.D y.L y.D (hEx.mod0 (Mod.refl none_ wr).drew) (hEx.mod0 (Mod.refl none_ wr).drew) q1 q2)
      have hi1 : (0 : Int) ≤ (j : Int) := by omega
      have hi2 : (j : Int) < (n : Int) := by omega
      clear hrg hrg' hEx
      replace hm := Lib.hid hm
      replace hxm := Lib.hid hxm
      replace hx := Lib.hid hx
      replace hym := Lib.hid hym
      replace hy := Lib.hid hy
      go_upto_region 6 with fail
      refine wp_region_held_drew (S := fun W => W.rangeAt g (o + j * 20) [.int .i64 y.m.frm, .int .i64 y.m.to, .int .i64 y.m.kind, .int .i64 y.m.r.i.r, .int .i64 y.m.r.i.n, .int .i64 y.m.r.bal, .int .i64 y.m.r.st, .int .i64 y.m.r.by_, .int .i64 y.m.r.e.o.c, .int .i64 y.m.r.e.o.s, .int .i64 y.m.r.e.o.k, .string (txt y.m.r.e.o.acct), .string (txt y.m.r.e.o.peer), .int .i64 y.m.r.e.o.sum, .slice y.L.a y.L.n y.L.c, .int .i64 y.m.r.e.o.per, .int .i64 y.m.r.e.o.hold, .string (txt y.m.r.e.o.note), .bool y.m.r.e.none, .slice y.D.a y.D.n y.D.c] ∧ W.rangeAt g' (o' + j * 20) [.int .i64 y.m.frm, .int .i64 y.m.to, .int .i64 y.m.kind, .int .i64 y.m.r.i.r, .int .i64 y.m.r.i.n, .int .i64 y.m.r.bal, .int .i64 y.m.r.st, .int .i64 y.m.r.by_, .int .i64 y.m.r.e.o.c, .int .i64 y.m.r.e.o.s, .int .i64 y.m.r.e.o.k, .string (txt y.m.r.e.o.acct), .string (txt y.m.r.e.o.peer), .int .i64 y.m.r.e.o.sum, .slice y.L.a y.L.n y.L.c, .int .i64 y.m.r.e.o.per, .int .i64 y.m.r.e.o.hold, .string (txt y.m.r.e.o.note), .bool y.m.r.e.none, .slice y.D.a y.D.n y.D.c]) (by kernel_rfl) hS0 (fun hHeld => ?_)
      refine wpAnyH_take (i := 0) (v := ?_) rfl (by kernel_rfl) (by kernel_rfl) (by kernel_rfl) (fun _ _ _ h => h) (Or.inl ⟨by rfl, ?_⟩) (by assumption) ?_
      rotate_left
      · intro W hSw; (try dsimp only at hSw); go_simp; (try with_reducible rfl)
      try simp only [Act.put, List.getElem_toArray, List.getElem_cons_zero, List.getElem_cons_succ, List.setIfInBounds_toArray, List.set_cons_zero, List.set_cons_succ]
      refine wpAnyH_take (i := 1) (v := ?_) rfl (by kernel_rfl) (by kernel_rfl) (by kernel_rfl) (fun _ _ _ h => h) (Or.inl ⟨by rfl, ?_⟩) (by assumption) ?_
      rotate_left
      · intro W hSw; (try dsimp only at hSw); go_simp; (try with_reducible rfl)
      try simp only [Act.put, List.getElem_toArray, List.getElem_cons_zero, List.getElem_cons_succ, List.setIfInBounds_toArray, List.set_cons_zero, List.set_cons_succ]
      refine wpAnyH_take (i := 2) (v := ?_) rfl (by kernel_rfl) (by kernel_rfl) (by kernel_rfl) (fun _ _ _ h => h) (Or.inl ⟨by rfl, ?_⟩) (by assumption) ?_
      rotate_left
      · intro W hSw; (try dsimp only at hSw); go_simp; (try with_reducible rfl)
      try simp only [Act.put, List.getElem_toArray, List.getElem_cons_zero, List.getElem_cons_succ, List.setIfInBounds_toArray, List.set_cons_zero, List.set_cons_succ]
      refine wpAnyH_take (i := 3) rfl (by kernel_rfl) (by kernel_rfl) (by kernel_rfl) (fun _ _ _ h => h) (yieldsIf_load_mid (by rfl) 46 (.tmp 19) rfl g (o + j * 20) rfl [.int .i64 y.m.frm, .int .i64 y.m.to, .int .i64 y.m.kind, .int .i64 y.m.r.i.r, .int .i64 y.m.r.i.n, .int .i64 y.m.r.bal, .int .i64 y.m.r.st, .int .i64 y.m.r.by_, .int .i64 y.m.r.e.o.c, .int .i64 y.m.r.e.o.s, .int .i64 y.m.r.e.o.k, .string (txt y.m.r.e.o.acct), .string (txt y.m.r.e.o.peer), .int .i64 y.m.r.e.o.sum, .slice y.L.a y.L.n y.L.c, .int .i64 y.m.r.e.o.per, .int .i64 y.m.r.e.o.hold, .string (txt y.m.r.e.o.note), .bool y.m.r.e.none, .slice y.D.a y.D.n y.D.c] _ (fun W hW => hW.1) Tryz.underlying46 rfl msg_sizeG) (by assumption) ?_
      try simp only [Act.put, List.getElem_toArray, List.getElem_cons_zero, List.getElem_cons_succ, List.setIfInBounds_toArray, List.set_cons_zero, List.set_cons_succ]
      refine wpAnyH_take (i := 4) (v := ?_) rfl (by kernel_rfl) (by kernel_rfl) (by kernel_rfl) (fun _ _ _ h => h) (Or.inl ⟨by rfl, ?_⟩) (by assumption) ?_
      rotate_left
      · intro W hSw; (try dsimp only at hSw); go_simp; (try with_reducible rfl)
      try simp only [Act.put, List.getElem_toArray, List.getElem_cons_zero, List.getElem_cons_succ, List.setIfInBounds_toArray, List.set_cons_zero, List.set_cons_succ]
      refine wpAnyH_take (i := 5) (v := ?_) rfl (by kernel_rfl) (by kernel_rfl) (by kernel_rfl) (fun _ _ _ h => h) (Or.inl ⟨by rfl, ?_⟩) (by assumption) ?_
      rotate_left
      · intro W hSw; (try dsimp only at hSw); go_simp; (try with_reducible rfl)
      try simp only [Act.put, List.getElem_toArray, List.getElem_cons_zero, List.getElem_cons_succ, List.setIfInBounds_toArray, List.set_cons_zero, List.set_cons_succ]
      refine wpAnyH_take (i := 6) (v := ?_) rfl (by kernel_rfl) (by kernel_rfl) (by kernel_rfl) (fun _ _ _ h => h) (Or.inl ⟨by rfl, ?_⟩) (by assumption) ?_
      rotate_left
      · intro W hSw; (try dsimp only at hSw); go_simp; (try with_reducible rfl)
      try simp only [Act.put, List.getElem_toArray, List.getElem_cons_zero, List.getElem_cons_succ, List.setIfInBounds_toArray, List.set_cons_zero, List.set_cons_succ]
      refine wpAnyH_take (i := 7) rfl (by kernel_rfl) (by kernel_rfl) (by kernel_rfl) (fun _ _ _ h => h) (yieldsIf_load_mid (by rfl) 46 (.tmp 23) rfl g' (o' + j * 20) rfl [.int .i64 y.m.frm, .int .i64 y.m.to, .int .i64 y.m.kind, .int .i64 y.m.r.i.r, .int .i64 y.m.r.i.n, .int .i64 y.m.r.bal, .int .i64 y.m.r.st, .int .i64 y.m.r.by_, .int .i64 y.m.r.e.o.c, .int .i64 y.m.r.e.o.s, .int .i64 y.m.r.e.o.k, .string (txt y.m.r.e.o.acct), .string (txt y.m.r.e.o.peer), .int .i64 y.m.r.e.o.sum, .slice y.L.a y.L.n y.L.c, .int .i64 y.m.r.e.o.per, .int .i64 y.m.r.e.o.hold, .string (txt y.m.r.e.o.note), .bool y.m.r.e.none, .slice y.D.a y.D.n y.D.c] _ (fun W hW => hW.2) Tryz.underlying46 rfl msg_sizeG) (by assumption) ?_
      try simp only [Act.put, List.getElem_toArray, List.getElem_cons_zero, List.getElem_cons_succ, List.setIfInBounds_toArray, List.set_cons_zero, List.set_cons_succ]
      refine wpAnyH_ready (rs := [8]) (by kernel_rfl) (by simp) ?_
      refine AllReadyH.cons rfl (fun K hK => ?_) AllReadyH.nil
      go_simp
      (with_reducible refine k17.out.mono ?_); rintro e w6 ⟨rfl, hm6⟩; dsimp only
      have hS6 : w6.rangeAt g (o + j * 20) [.int .i64 y.m.frm, .int .i64 y.m.to, .int .i64 y.m.kind, .int .i64 y.m.r.i.r, .int .i64 y.m.r.i.n, .int .i64 y.m.r.bal, .int .i64 y.m.r.st, .int .i64 y.m.r.by_, .int .i64 y.m.r.e.o.c, .int .i64 y.m.r.e.o.s, .int .i64 y.m.r.e.o.k, .string (txt y.m.r.e.o.acct), .string (txt y.m.r.e.o.peer), .int .i64 y.m.r.e.o.sum, .slice y.L.a y.L.n y.L.c, .int .i64 y.m.r.e.o.per, .int .i64 y.m.r.e.o.hold, .string (txt y.m.r.e.o.note), .bool y.m.r.e.none, .slice y.D.a y.D.n y.D.c] ∧ w6.rangeAt g' (o' + j * 20) [.int .i64 y.m.frm, .int .i64 y.m.to, .int .i64 y.m.kind, .int .i64 y.m.r.i.r, .int .i64 y.m.r.i.n, .int .i64 y.m.r.bal, .int .i64 y.m.r.st, .int .i64 y.m.r.by_, .int .i64 y.m.r.e.o.c, .int .i64 y.m.r.e.o.s, .int .i64 y.m.r.e.o.k, .string (txt y.m.r.e.o.acct), .string (txt y.m.r.e.o.peer), .int .i64 y.m.r.e.o.sum, .slice y.L.a y.L.n y.L.c, .int .i64 y.m.r.e.o.per, .int .i64 y.m.r.e.o.hold, .string (txt y.m.r.e.o.note), .bool y.m.r.e.none, .slice y.D.a y.D.n y.D.c] := ⟨rangeM_mod hS0.1 hm6, rangeM_mod hS0.2 hm6⟩
      have hM6 := Lib.hid (hm.out.trans ((Mod.refl none_ wr).drew.trans hm6))
      clear hm6
      go_wp2_with fail
      refine hK.out _ _ (hS6) (fun hHeld => ?_)
      clear hK K
      try simp only [Act.put, List.getElem_toArray, List.getElem_cons_zero, List.getElem_cons_succ, List.setIfInBounds_toArray, List.set_cons_zero, List.set_cons_succ]
      refine wpAnyH_take (i := 9) (v := ?_) rfl (by kernel_rfl) (by kernel_rfl) (by kernel_rfl) (fun _ _ _ h => h) (Or.inl ⟨by rfl, ?_⟩) (by assumption) ?_
      rotate_left
      · intro W hSw; (try dsimp only at hSw); go_simp; (try with_reducible rfl)
      try simp only [Act.put, List.getElem_toArray, List.getElem_cons_zero, List.getElem_cons_succ, List.setIfInBounds_toArray, List.set_cons_zero, List.set_cons_succ]
      refine wpAnyH_done (by kernel_rfl) ?_ _
      clear hHeld hS0 hS6
      go_wp2_with fail
      go_roundg (gk - 1)
      case measure => omega
      case rel => exact ⟨j + 1, by go_num, by omega, hM6.out⟩
    · obtain rfl : j = n := by omega
      replace hm := Lib.hid hm
      go_wp2_with fail
      go_ret
      exact ⟨rfl, hm.out⟩
theorem rdI1_get {w : World} {A : Option Addr} {n : Nat} {xs : List Int} (h : Rd w 1 A n (ivs xs)) {j : Nat} (hj : j < n) : ∃ b o, A = some ⟨b, o, none⟩ ∧ ∃ hl : j < xs.length, w.cell? ⟨b, o + j, none⟩ = some (.int .i64 xs[j]) := by
  obtain ⟨b, o, e, hc⟩ := Rd.form h (by omega) (by omega)
  have hl : j < xs.length := by have := h.1; simp [ivs] at this; omega
  exact ⟨b, o, e, hl, hc j _ (by simp [ivs, hl])⟩
set_option maxRecDepth 100000 in
set_option maxHeartbeats 4000000 in
theorem sameInts_eq (w : World) (A B : Option Addr) (n c d : Nat) (l : List Int) (hA : Rd w 1 A n (ivs l)) (hB : Rd w 1 B n (ivs l)) (hn : n ≤ 140737488355328) :
    Calls Tryz.prog 16 #[.slice A n c, .slice B n d] w fun e w' => e = .returned (.bool true) ∧ ∃ k, w' = w.drewN k := by
  have hz : ((n : Int) != (n : Int)) = false := by simp
  replace hA := Lib.hid hA
  replace hB := Lib.hid hB
  go_enter Tryz.func16, Tryz.ntmps16
  go_wp2_with fail
  go_loopg [5] n (fun gk y wr => ∃ j : Nat, y = .int .i64 j ∧ j + gk = n ∧ ∃ q, wr = w.drewN q)
  case atStart => exact ⟨0, rfl, by omega, 0, rfl⟩
  case round =>
    obtain ⟨j, rfl, hj, q, hq⟩ := hrel
    by_cases hlt : j < n
    · obtain ⟨b, o, rfl, h1, c1⟩ := rdI1_get (w := w.drewN q) (Rd.drewN hA.out q) hlt
      obtain ⟨b', o', rfl, h2, c2⟩ := rdI1_get (w := w.drewN q) (Rd.drewN hB.out q) hlt
      rw [← hq] at c1 c2
      generalize l[j] = x at *
      have hne : (x != x) = false := by simp
      replace hq := Lib.hid hq
      go_wp2_with (go_quiet (fail))
      go_roundg (gk - 1)
      case measure => omega
      case rel => exact ⟨j + 1, by go_num, by omega, _, by rw [hq.out, World.drewN_drewN]⟩
    · obtain rfl : j = n := by omega
      replace hq := Lib.hid hq
      go_wp2_with fail
      go_ret
      exact ⟨rfl, _, hq.out⟩
end Go.Proofs.YtdekehhmjehicaaGreat
/-
  Opening an argument's reading: what lies in memory where a slice of numbers, of bytes, of structs came in. No condition.
-/
namespace Go.Proofs.YtdekehhmjehicaaGreat
set_option linter.unusedVariables false
set_option linter.unusedSimpArgs false
open Go.RowKit Go.ChangeShapes Go.WideShapes Go.Deep

theorem list_choice {α : Type} (p : Nat → α → Prop) : ∀ n, (∀ i, i < n → ∃ e, p i e) → ∃ es : List α, es.length = n ∧ ∀ i e, es[i]? = some e → p i e := by
  intro n
  induction n with
  | zero => intro _; exact ⟨[], rfl, fun i e h => by simp at h⟩
  | succ n ih =>
    intro h
    obtain ⟨es, hl, he⟩ := ih fun i hi => h i (by omega)
    obtain ⟨x, hx⟩ := h n (by omega)
    refine ⟨es ++ [x], by simp [hl], fun i e hi => ?_⟩
    by_cases hin : i < es.length
    · rw [List.getElem?_append_left hin] at hi
      exact he i e hi
    · rw [List.getElem?_append_right (by omega)] at hi
      have : i = es.length := by
        rcases Nat.lt_or_ge (i - es.length) 1 with h1 | h1
        · omega
        · rw [List.getElem?_eq_none (by simpa using h1)] at hi; cases hi
      subst this
      simp at hi
      subst hi
      rw [hl]; exact hx

theorem flat_range' {α : Type} (f : α → List Value) (css : Nat → List Value) : ∀ (es : List α) (s : Nat), (∀ i e, es[i]? = some e → css (s + i) = f e) → (List.range' s es.length).flatMap css = es.flatMap f := by
  intro es
  induction es with
  | nil => intro _ _; rfl
  | cons x es ih =>
    intro s h
    rw [List.length_cons, List.range'_succ, List.flatMap_cons, List.flatMap_cons, ih (s + 1) fun i e hi => by
      have := h (i + 1) e (by simpa using hi)
      rw [← this]; congr 1; omega]
    rw [← h 0 x (by simp)]
    rfl
theorem flat_range {α : Type} (f : α → List Value) (css : Nat → List Value) (es : List α) (h : ∀ i e, es[i]? = some e → css i = f e) : (List.range es.length).flatMap css = es.flatMap f := by
  rw [List.range_eq_range']
  exact flat_range' f css es 0 fun i e hi => by rw [Nat.zero_add]; exact h i e hi

section
variable {H : Type} {enc : TypeId × Value → H} {P : Program} {w : World} {held : Bool}

/-- What the form's own reach says of a datum. -/
def Wd (P : Program) (t : TypeId) (d : DataW H) : Prop := ∀ n ∈ d.weights P t, n ≤ 140737488351232
theorem wd_arg {ts : List TypeId} {ds : List (DataW H)} (h : (DataW.weightsEach P ts ds).all (· ≤ reachBytes) = true) {j : Nat} {t : TypeId} {d : DataW H} (ht : ts[j]? = some t) (hd : ds[j]? = some d) : Wd P t d := by
  intro n hn
  have := List.all_eq_true.1 h _ (DataW.weights_mem_each ht hd n hn)
  have e : reachBytes = 140737488351232 := by decide
  simpa [e] using this
theorem wd_each {ts : List TypeId} {ds : List (DataW H)} (h : ∀ n ∈ DataW.weightsEach P ts ds, n ≤ 140737488351232) {j : Nat} {t : TypeId} {d : DataW H} (ht : ts[j]? = some t) (hd : ds[j]? = some d) : Wd P t d :=
  fun n hn => h n (DataW.weights_mem_each ht hd n hn)
theorem weights_mem_all {e : TypeId} : ∀ {l : List (DataW H)} {d : DataW H}, d ∈ l → ∀ n ∈ d.weights P e, n ∈ DataW.weightsAll P e l := by
  intro l
  induction l with
  | nil => intro d h; cases h
  | cons x l ih =>
    intro d h n hn
    simp only [DataW.weightsAll, List.mem_append]
    rcases List.mem_cons.1 h with rfl | h
    · exact .inl hn
    · exact .inr (ih h n hn)
theorem wd_slice {t e : TypeId} {elems spare : List (DataW H)} (hu : P.underlying t = some (.slice e)) (h : Wd P t (.slice elems spare)) :
    (elems.length + spare.length) * P.bytesOf e ≤ 140737488351232 ∧ (∀ d ∈ elems, Wd P e d) := by
  refine ⟨h _ (by simp [DataW.weights, hu]), fun d hd n hn => h n ?_⟩
  simp only [DataW.weights, hu, List.mem_cons, List.mem_append]
  exact .inr (.inl (weights_mem_all hd n hn))
theorem wd_struct {t : TypeId} {fs : Array Field} {parts : List (DataW H)} (hu : P.underlying t = some (.struct fs)) (h : Wd P t (.agg parts)) {j : Nat} {f : Field} {d : DataW H} (hf : fs[j]? = some f) (hd : parts[j]? = some d) : Wd P f.type d := by
  refine wd_each (ts := fs.toList.map (·.type)) (ds := parts) (fun n hn => h n ?_) (j := j) (by simp [hf]) hd
  simp only [DataW.weights, hu]
  exact hn

/-- What is known of a slice that came in: its cells, its bounds, where it lies. -/
def Came (w : World) (size bytes : Nat) (A : Option Addr) (n c : Nat) (xs : List Value) : Prop :=
  Rd w size A n xs ∧ n ≤ c ∧ c ≤ 9223372036854775807 ∧ c * bytes ≤ 140737488351232 ∧ (0 < n → ∀ k, fp A k → k < w.heap.size)

/-- A slice of whatever elements. -/
theorem open_any {t e : TypeId} {fuel k : Nat} {cs : List Value} {x : DataW H × List MemPlace} (ht : P.underlying t = some (.slice e)) (hk : P.cellsOf e = k) (hk0 : 0 < k)
    (h : DataW.trod enc P w 0 (fun _ => true) held fuel t cs = some x) (hw : Wd P t x.1) :
    ∃ (A : Option Addr) (n c : Nat) (css : Nat → List Value) (D : Nat → DataW H), cs = [.slice A n c] ∧ Came w k (P.bytesOf e) A n c ((List.range n).flatMap css) ∧
      ∀ i, i < n → (css i).length = k ∧ Wd P e (D i) ∧ ∃ m pl, DataW.trod enc P w 0 (fun _ => true) held m e (css i) = some (D i, pl) := by
  rcases open_slice ht h with ⟨rfl, rfl⟩ | ⟨a, len, cap, m, n, D, Pl, rfl, hb, hl, hm, hmm, rfl, hi⟩
  · exact ⟨none, 0, 0, fun _ => [], fun _ => .nil, rfl, ⟨Rd.none_, Nat.le_refl _, by omega, by omega, fun h => absurd h (by omega)⟩, fun i hi => absurd hi (by omega)⟩
  · simp only [if_true] at hmm
    subst hmm
    have hw2 := wd_slice ht hw
    simp only [List.length_map, List.length_range] at hw2
    have hch : ∀ i, i < m → ∃ cs', w.cells? 0 (a.add (i * P.cellsOf e)) (P.cellsOf e) = some cs' ∧ DataW.trod enc P w 0 (fun _ => true) held n e cs' = some (D i, Pl i) := hi
    obtain ⟨cl, hcl, hcp⟩ := list_choice _ m hch
    have hget : ∀ i, i < m → ∃ cs', cl[i]? = some cs' := fun i hi => ⟨_, List.getElem?_eq_getElem (by omega)⟩
    have hcell : ∀ i, i < m → ∀ cs', cl[i]? = some cs' → cs'.length = k ∧ ∀ j u, cs'[j]? = some u → w.cell? (a.add (i * k + j)) = some u := by
      intro i hi cs' hc
      obtain ⟨h1, _⟩ := hcp i cs' hc
      obtain ⟨_, hlen, hat⟩ := World.cells?_some h1
      rw [hk] at hlen hat
      refine ⟨hlen, fun j u hu => ?_⟩
      have hj : j < k := by
        rcases Nat.lt_or_ge j cs'.length with h2 | h2
        · omega
        · rw [List.getElem?_eq_none h2] at hu; cases hu
      rw [← add_of_add, hat j hj, hu]
    refine ⟨some a, len, m, fun i => (cl[i]?).getD [], D, rfl, ⟨⟨?_, fun _ => ⟨a, rfl, ?_⟩⟩, hl, by simpa [maxLen] using hm, ?_, ?_⟩, ?_⟩
    · have : ∀ q, q ≤ m → ((List.range q).flatMap fun i => (cl[i]?).getD []).length = q * k := by
        intro q
        induction q with
        | zero => intro _; simp
        | succ q ih =>
          intro hq
          obtain ⟨cs', hc⟩ := hget q (by omega)
          rw [List.range_succ, List.flatMap_append, List.length_append, ih (by omega), List.flatMap_singleton, hc, Option.getD_some, (hcell q (by omega) cs' hc).1, Nat.succ_mul]
      exact this len hl
    · have hlq : ∀ q, q ≤ m → ((List.range q).flatMap fun i => (cl[i]?).getD []).length = q * k := by
        intro q
        induction q with
        | zero => intro _; simp
        | succ q ih =>
          intro hq
          obtain ⟨cs', hc⟩ := hget q (by omega)
          rw [List.range_succ, List.flatMap_append, List.length_append, ih (by omega), List.flatMap_singleton, hc, Option.getD_some, (hcell q (by omega) cs' hc).1, Nat.succ_mul]
      have : ∀ q, q ≤ m → ∀ j u, ((List.range q).flatMap fun i => (cl[i]?).getD [])[j]? = some u → w.cell? (a.add j) = some u := by
        intro q
        induction q with
        | zero => intro _ j u hu; simp at hu
        | succ q ih =>
          intro hq j u hu
          obtain ⟨cs', hc⟩ := hget q (by omega)
          have hlen := hlq q (by omega)
          rw [List.range_succ, List.flatMap_append, List.flatMap_singleton, hc, Option.getD_some] at hu
          rcases Nat.lt_or_ge j (q * k) with hj | hj
          · rw [List.getElem?_append_left (by omega)] at hu
            exact ih (by omega) j u hu
          · rw [List.getElem?_append_right (by omega), hlen] at hu
            have := (hcell q (by omega) cs' hc).2 _ u hu
            rwa [show q * k + (j - q * k) = j by omega] at this
      exact this len hl
    · have := hw2.1
      rwa [show len + (m - len) = m by omega] at this
    · rintro h0 b ⟨a', ha', rfl⟩
      cases ha'
      obtain ⟨cs', hc⟩ := hget 0 (by omega)
      obtain ⟨h1, h2⟩ := hcell 0 (by omega) cs' hc
      obtain ⟨u, hu⟩ : ∃ u, cs'[0]? = some u := ⟨_, List.getElem?_eq_getElem (by omega)⟩
      have := h2 0 u hu
      rw [Nat.zero_mul, Nat.zero_add, add_zero_] at this
      exact World.block_lt_of_cell? w _ this
    · intro i hi
      obtain ⟨cs', hc⟩ := hget i (by omega)
      simp only [hc, Option.getD_some]
      refine ⟨(hcell i (by omega) cs' hc).1, ?_, n, Pl i, (hcp i cs' hc).2⟩
      apply hw2.2
      simp only [List.mem_map, List.mem_range]
      exact ⟨i, hi, rfl⟩

/-- A slice of integers. -/
theorem open_nums {t e : TypeId} {kk : IntKind} {fuel : Nat} {cs : List Value} {x : DataW H × List MemPlace} (ht : P.underlying t = some (.slice e)) (he : P.underlying e = some (.int kk)) (hk : P.cellsOf e = 1)
    (h : DataW.trod enc P w 0 (fun _ => true) held fuel t cs = some x) (hw : Wd P t x.1) :
    ∃ (A : Option Addr) (n c : Nat) (zs : List Int), cs = [.slice A n c] ∧ Came w 1 (P.bytesOf e) A n c (zs.map (.int kk ·)) ∧ ∀ z ∈ zs, (Lit.int kk z).wf = true := by
  obtain ⟨A, n, c, css, D, rfl, hc, hi⟩ := open_any ht hk (by omega) h hw
  have hch : ∀ i, i < n → ∃ z : Int, css i = [.int kk z] ∧ (Lit.int kk z).wf = true := by
    intro i hin
    obtain ⟨_, _, m, pl, htr⟩ := hi i hin
    obtain ⟨z, hz, _, hwf⟩ := DataW.trod_int he htr
    exact ⟨z, hz, hwf⟩
  obtain ⟨zs, hl, hz⟩ := list_choice _ n hch
  refine ⟨A, n, c, zs, rfl, ?_, ?_⟩
  · have e1 : (List.range n).flatMap css = zs.map (.int kk ·) := by
      rw [← hl, flat_range (fun z => [Value.int kk z]) css zs fun i e hie => (hz i e hie).1]
      clear hz hl
      induction zs with
      | nil => rfl
      | cons z zs ih => simp [List.flatMap_cons, ih]
    rwa [e1] at hc
  · intro z hm
    obtain ⟨i, hi1, hi2⟩ := List.getElem_of_mem hm
    exact (hz i z (by rw [List.getElem?_eq_getElem hi1, hi2])).2

/-- Bytes. -/
theorem open_bytes {t e : TypeId} {fuel : Nat} {cs : List Value} {x : DataW H × List MemPlace} (ht : P.underlying t = some (.slice e)) (he : P.underlying e = some (.int .u8)) (hk : P.cellsOf e = 1)
    (h : DataW.trod enc P w 0 (fun _ => true) held fuel t cs = some x) (hw : Wd P t x.1) :
    ∃ (A : Option Addr) (n c : Nat) (l : List UInt8), cs = [.slice A n c] ∧ Came w 1 (P.bytesOf e) A n c (bvs l) := by
  obtain ⟨A, n, c, zs, rfl, hc, hz⟩ := open_nums ht he hk h hw
  refine ⟨A, n, c, zs.map fun z => UInt8.ofNat z.toNat, rfl, ?_⟩
  have e1 : bvs (zs.map fun z => UInt8.ofNat z.toNat) = zs.map (.int .u8 ·) := by
    simp only [bvs, List.map_map]
    apply List.map_congr_left
    intro z hm
    have hb : 0 ≤ z ∧ z ≤ 255 := by simpa [Lit.wf, IntKind.min, IntKind.max, IntKind.signed, IntKind.bits] using hz z hm
    have : ((UInt8.ofNat z.toNat).toNat : Int) = z := by
      rw [UInt8.toNat_ofNat']
      omega
    simp only [Function.comp, bv, this]
  rwa [e1]

/-- A struct of one-cell fields. -/
theorem open_fields {t : TypeId} {fs : Array Field} {fuel : Nat} {cs : List Value} {x : DataW H × List MemPlace} (he : P.underlying t = some (.struct fs)) (hone : oneCellFields P fs = true) (hC : P.cellsOf t = fs.size)
    (h : DataW.trod enc P w 0 (fun _ => true) held fuel t cs = some x) (hw : Wd P t x.1) :
    cs.length = fs.size ∧ ∀ (j : Nat) (f : Field), fs[j]? = some f → ∃ (v : Value) (m : Nat) (y : DataW H × List MemPlace), cs[j]? = some v ∧ DataW.trod enc P w 0 (fun _ => true) held m f.type [v] = some y ∧ Wd P f.type y.1 := by
  obtain ⟨ys, n', _, rfl, hlen, hyl, hf⟩ := DataW.trod_struct he h
  refine ⟨by rw [hlen, hC], fun j f hj => ?_⟩
  obtain ⟨ho, hk⟩ := hone_of hone j f hj
  have hjl : j < fs.size := (Array.getElem?_eq_some_iff.1 hj).1
  have hv : cs[j]? = some (cs[j]'(by omega)) := List.getElem?_eq_getElem (by omega)
  have h1 := hf j f hj
  rw [ho, hk] at h1
  have hone' : (cs.drop j).take 1 = [cs[j]'(by omega)] := by
    rw [List.drop_eq_getElem_cons (by omega)]
    rfl
  rw [hone'] at h1
  have hys : ys[j]? = some (ys[j]'(by omega)) := List.getElem?_eq_getElem (by omega)
  refine ⟨_, n', _, hv, h1.trans hys, wd_struct he hw hj ?_⟩
  rw [List.getElem?_map, hys]
  rfl
end
end Go.Proofs.YtdekehhmjehicaaGreat
/-
  post.Same.
-/
namespace Go.Proofs.YtdekehhmjehicaaGreat
set_option linter.unusedVariables false
set_option linter.unusedSimpArgs false
open Go.RowKit
set_option maxRecDepth 100000 in
set_option maxHeartbeats 8000000 in
theorem sameM_ok (w : World) (a b : Mg) (L D M E : SV) (ha : EnM w a.r.e L D) (hb : EnM w b.r.e M E) (hL : L.n ≤ 140737488355328) (hD : D.n ≤ 140737488355328) (hM : M.n ≤ 140737488355328) (hE : E.n ≤ 140737488355328) :
    Calls Tryz.prog 23 #[.agg #[.int .i64 a.frm, .int .i64 a.to, .int .i64 a.kind, .int .i64 a.r.i.r, .int .i64 a.r.i.n, .int .i64 a.r.bal, .int .i64 a.r.st, .int .i64 a.r.by_, .int .i64 a.r.e.o.c, .int .i64 a.r.e.o.s, .int .i64 a.r.e.o.k, .string (txt a.r.e.o.acct), .string (txt a.r.e.o.peer), .int .i64 a.r.e.o.sum, .slice L.a L.n L.c, .int .i64 a.r.e.o.per, .int .i64 a.r.e.o.hold, .string (txt a.r.e.o.note), .bool a.r.e.none, .slice D.a D.n D.c], .agg #[.int .i64 b.frm, .int .i64 b.to, .int .i64 b.kind, .int .i64 b.r.i.r, .int .i64 b.r.i.n, .int .i64 b.r.bal, .int .i64 b.r.st, .int .i64 b.r.by_, .int .i64 b.r.e.o.c, .int .i64 b.r.e.o.s, .int .i64 b.r.e.o.k, .string (txt b.r.e.o.acct), .string (txt b.r.e.o.peer), .int .i64 b.r.e.o.sum, .slice M.a M.n M.c, .int .i64 b.r.e.o.per, .int .i64 b.r.e.o.hold, .string (txt b.r.e.o.note), .bool b.r.e.none, .slice E.a E.n E.c]] w fun e w' => e = .returned (.bool (decide (a = b))) ∧ Mod none_ w w' := by
  have kE := Lib.hid (fun W (h : Mod none_ w W) => sameE_ok W a.r.e b.r.e L D M E (ha.mod0 h) (hb.mod0 h) hL hD hM hE)
  have hei := fun W => eql_is W a.r.i b.r.i
  unfold isV at hei
  replace ha := Lib.hid ha
  replace hb := Lib.hid hb
  obtain ⟨af, at_, ak, ⟨⟨ar, an⟩, ab, as_, ay, ae⟩⟩ := a
  obtain ⟨bf, bt, bk, ⟨⟨br, bn⟩, bb, bs, by_, be⟩⟩ := b
  dsimp only at kE hei ⊢
  go_enter Tryz.func23, Tryz.ntmps23
  go_wp2_with fail
  · with_reducible refine (kE.out _ (((Mod.refl none_ w).alloc _).alloc _)).mono ?_
    rintro e w1 ⟨rfl, hm1⟩
    dsimp only
    have hm : Mod none_ w w1 := (((Mod.refl none_ w).alloc _).alloc _).trans hm1
    clear hm1
    replace hm := Lib.hid hm
    go_wp2_with fail
    go_ret
    refine ⟨?_, hm.out⟩
    simp_all
  all_goals
    go_ret
    refine ⟨by simp_all, ((Mod.refl none_ w).alloc _).alloc _⟩
end Go.Proofs.YtdekehhmjehicaaGreat
/-
  The law's small messages, and lives. No condition.
-/
namespace Go.Proofs.YtdekehhmjehicaaGreat
set_option linter.unusedVariables false
set_option linter.unusedSimpArgs false
open Go.RowKit
def smM (f t : Int) : Mg := ⟨f, t, 6, ⟨⟨0, 1⟩, 8, 0, 0, en0⟩⟩
def sm (f t : Int) : Ms := ⟨smM f t, ⟨none, 0, 0⟩, ⟨none, 0, 0⟩⟩
set_option maxRecDepth 100000 in
theorem small_ok (w : World) (f t : Int) : Calls Tryz.prog 20 #[.int .i64 f, .int .i64 t] w fun e w' => e = .returned (.agg #[.int .i64 f, .int .i64 t, .int .i64 6, .int .i64 0, .int .i64 1, .int .i64 8, .int .i64 0, .int .i64 0, .int .i64 0, .int .i64 0, .int .i64 0, .string ⟨#[]⟩, .string ⟨#[]⟩, .int .i64 0, .slice none 0 0, .int .i64 0, .int .i64 0, .string ⟨#[]⟩, .bool false, .slice none 0 0]) ∧ Mod none_ w w' := by
  have hb0 := Lib.hid (Blk.new w 46 #[.int .i64 0, .int .i64 0, .int .i64 0, .int .i64 0, .int .i64 0, .int .i64 0, .int .i64 0, .int .i64 0, .int .i64 0, .int .i64 0, .int .i64 0, .string ⟨#[]⟩, .string ⟨#[]⟩, .int .i64 0, .slice none 0 0, .int .i64 0, .int .i64 0, .string ⟨#[]⟩, .bool false, .slice none 0 0])
  go_enter Tryz.func20, Tryz.ntmps20
  go_wp2_with (refine wpList_store_blk rfl 46 (.tmp 4) (.tmp 8) rfl w.heap.size 0 _ rfl rfl hb0.out (by simp) msg_size (by rfl) #[.int .i64 f, .int .i64 t, .int .i64 6, .int .i64 0, .int .i64 1, .int .i64 8, .int .i64 0, .int .i64 0, .int .i64 0, .int .i64 0, .int .i64 0, .string ⟨#[]⟩, .string ⟨#[]⟩, .int .i64 0, .slice none 0 0, .int .i64 0, .int .i64 0, .string ⟨#[]⟩, .bool false, .slice none 0 0] rfl ?_; intro w2 hb2 hm2; replace hb2 := Lib.hid hb2; replace hm2 := Lib.hid hm2)
  exact ret_row rfl w.heap.size rfl hb2.out Tryz.underlying46 rfl msg_size rfl ⟨rfl, ((Mod.refl none_ w).alloc _).in_new (Nat.le_refl _) hm2.out⟩
theorem sm_mem (w : World) (f t : Int) : EnM w (sm f t).m.r.e (sm f t).L (sm f t).D := en0_mem w
theorem sm_okk (f t : Int) : MsOk (sm f t) := ⟨by simp [sm], by simp [sm], (show (Lit.int .i64 en0.o.k).wf = true by decide), fun l hl => by cases hl⟩
theorem sm_nums (f t : Int) : numsE (smM f t).r.e := ⟨(show in64 en0.o.sum from ⟨by decide, by decide⟩), fun l hl => by cases hl⟩
theorem r01 : RtM (sm 0 1) = true := by decide
theorem r12 : RtM (sm 1 2) = true := by decide
theorem r00 : RtM zeroMs = false := by decide
theorem look0 (x : Ms) (xs : List Ms) : lookR (x :: xs) 0 = some x := rfl
/-- everything of the bag is new -/
structure NewBag (w W : World) (p : Nat) (A : Option Addr) (n c : Nat) (xs : List Ms) : Prop where
  st : BagSt W p A n c xs
  mod : Mod none_ w W
  np : w.heap.size ≤ p
  na : ∀ k, fp A k → w.heap.size ≤ k
theorem NewBag.mod0 {w W W' : World} {p : Nat} {A : Option Addr} {n c : Nat} {xs : List Ms} (h : NewBag w W p A n c xs) (hm : Mod none_ W W') : NewBag w W' p A n c xs := ⟨h.st.mod0 hm, h.mod.trans hm, h.np, h.na⟩
theorem NewBag.step {w W W' : World} {p : Nat} {A A' : Option Addr} {n c n' c' : Nat} {xs xs' : List Ms} (h : NewBag w W p A n c xs) (st : BagSt W' p A' n' c' xs') (hm : Mod (bagF p A) W W') (hA : ∀ k, fp A' k → fp A k ∨ W.heap.size ≤ k) : NewBag w W' p A' n' c' xs' :=
  ⟨st, h.mod.then hm (fun i hi hk => by
    rcases hk with hk | hk
    · have := h.np; omega
    · have := h.na i hk; omega), h.np, fun k hk => by
    rcases hA k hk with h1 | h1
    · exact h.na k h1
    · exact Nat.le_trans h.mod.size h1⟩
set_option maxRecDepth 100000 in
set_option maxHeartbeats 8000000 in
theorem lives_ok (w : World) : Calls Tryz.prog 4 #[] w fun e w' => e = .returned (.bool true) ∧ Mod none_ w w' := by
  go_enter Tryz.func4, Tryz.ntmps4
  go_wp2_with fail
  with_reducible refine (bagNew_ok w).mono ?_
  rintro e w1 ⟨rfl, hb1, hm1⟩
  dsimp only
  have nb1 := Lib.hid (show NewBag w w1 w.heap.size none 0 0 [] from ⟨hb1, hm1, Nat.le_refl _, fun k hk => by obtain ⟨a, ha, _⟩ := hk; cases ha⟩)
  clear hb1 hm1
  generalize hp : w.heap.size = p at *
  replace hp := Lib.hid hp
  go_wp2_with fail
  with_reducible refine (small_ok _ 0 1).mono ?_
  rintro e w2 ⟨rfl, hm2⟩
  dsimp only
  have nb2 := Lib.hid (nb1.out.mod0 hm2)
  clear hm2 nb1
  go_wp2_with fail
  with_reducible refine (small_ok _ 1 2).mono ?_
  rintro e w3 ⟨rfl, hm3⟩
  dsimp only
  have nb3 := Lib.hid ((nb2.out.mod0 hm3).mod0 ((Mod.refl none_ w3).alloc (.cells #[.int .i64 0, .int .i64 1, .int .i64 6, .int .i64 0, .int .i64 1, .int .i64 8, .int .i64 0, .int .i64 0, .int .i64 0, .int .i64 0, .int .i64 0, .string ⟨#[]⟩, .string ⟨#[]⟩, .int .i64 0, .slice none 0 0, .int .i64 0, .int .i64 0, .string ⟨#[]⟩, .bool false, .slice none 0 0, .int .i64 1, .int .i64 2, .int .i64 6, .int .i64 0, .int .i64 1, .int .i64 8, .int .i64 0, .int .i64 0, .int .i64 0, .int .i64 0, .int .i64 0, .string ⟨#[]⟩, .string ⟨#[]⟩, .int .i64 0, .slice none 0 0, .int .i64 0, .int .i64 0, .string ⟨#[]⟩, .bool false, .slice none 0 0, .int .i64 0, .int .i64 0, .int .i64 0, .int .i64 0, .int .i64 0, .int .i64 0, .int .i64 0, .int .i64 0, .int .i64 0, .int .i64 0, .int .i64 0, .string ⟨#[]⟩, .string ⟨#[]⟩, .int .i64 0, .slice none 0 0, .int .i64 0, .int .i64 0, .string ⟨#[]⟩, .bool false, .slice none 0 0] 46)))
  clear hm3 nb2
  have hrow : RdM (w3.alloc (.cells #[.int .i64 0, .int .i64 1, .int .i64 6, .int .i64 0, .int .i64 1, .int .i64 8, .int .i64 0, .int .i64 0, .int .i64 0, .int .i64 0, .int .i64 0, .string ⟨#[]⟩, .string ⟨#[]⟩, .int .i64 0, .slice none 0 0, .int .i64 0, .int .i64 0, .string ⟨#[]⟩, .bool false, .slice none 0 0, .int .i64 1, .int .i64 2, .int .i64 6, .int .i64 0, .int .i64 1, .int .i64 8, .int .i64 0, .int .i64 0, .int .i64 0, .int .i64 0, .int .i64 0, .string ⟨#[]⟩, .string ⟨#[]⟩, .int .i64 0, .slice none 0 0, .int .i64 0, .int .i64 0, .string ⟨#[]⟩, .bool false, .slice none 0 0, .int .i64 0, .int .i64 0, .int .i64 0, .int .i64 0, .int .i64 0, .int .i64 0, .int .i64 0, .int .i64 0, .int .i64 0, .int .i64 0, .int .i64 0, .string ⟨#[]⟩, .string ⟨#[]⟩, .int .i64 0, .slice none 0 0, .int .i64 0, .int .i64 0, .string ⟨#[]⟩, .bool false, .slice none 0 0] 46)) (some ⟨w3.heap.size, 0, none⟩) 3 [sm 0 1, sm 1 2, zeroMs] := by
    have h := rdn w3 46 20 3 w3.heap.size (#[.int .i64 0, .int .i64 1, .int .i64 6, .int .i64 0, .int .i64 1, .int .i64 8, .int .i64 0, .int .i64 0, .int .i64 0, .int .i64 0, .int .i64 0, .string ⟨#[]⟩, .string ⟨#[]⟩, .int .i64 0, .slice none 0 0, .int .i64 0, .int .i64 0, .string ⟨#[]⟩, .bool false, .slice none 0 0, .int .i64 1, .int .i64 2, .int .i64 6, .int .i64 0, .int .i64 1, .int .i64 8, .int .i64 0, .int .i64 0, .int .i64 0, .int .i64 0, .int .i64 0, .string ⟨#[]⟩, .string ⟨#[]⟩, .int .i64 0, .slice none 0 0, .int .i64 0, .int .i64 0, .string ⟨#[]⟩, .bool false, .slice none 0 0, .int .i64 0, .int .i64 0, .int .i64 0, .int .i64 0, .int .i64 0, .int .i64 0, .int .i64 0, .int .i64 0, .int .i64 0, .int .i64 0, .int .i64 0, .string ⟨#[]⟩, .string ⟨#[]⟩, .int .i64 0, .slice none 0 0, .int .i64 0, .int .i64 0, .string ⟨#[]⟩, .bool false, .slice none 0 0] : Array Value) (0, 0) rfl rfl
    exact h
  have kP := bagPut_ok _ p none 0 0 [] nb3.out.st (by omega) (some ⟨w3.heap.size, 0, none⟩) 3 3 [sm 0 1, sm 1 2, zeroMs] hrow (fun x hx => by simp at hx; rcases hx with rfl | rfl | rfl <;> exact en0_mem _) (fun x hx => by simp at hx; rcases hx with rfl | rfl | rfl; exact sm_okk 0 1; exact sm_okk 1 2; exact ⟨by simp [zeroMs], by simp [zeroMs], by decide, fun l hl => by cases hl⟩) (by omega)
  have hfil : [sm 0 1, sm 1 2, zeroMs].filter RtM = [sm 0 1, sm 1 2] := by simp [r01, r12, r00]
  rw [hfil] at kP
  unfold PutPost at kP
  have hput : putN [sm 0 1, sm 1 2].length 0 = 2 := rfl
  rw [hput] at kP
  clear hrow hfil hput
  replace kP := Lib.hid kP
  go_wp2_with fail
  with_reducible refine kP.out.mono ?_
  rintro e w4 ⟨A4, c4, rfl, hb4, hm4, hA4⟩
  dsimp only
  have nb4 := Lib.hid (show NewBag w w4 p A4 2 c4 [sm 0 1, sm 1 2] from nb3.out.step hb4 hm4 hA4)
  clear hb4 hm4 hA4 nb3 kP
  go_wp2_with fail
  with_reducible refine (bagTwice_ok w4 p A4 2 c4 _ nb4.out.st (by omega) 0).mono ?_
  rintro e w5 ⟨A5, n5, c5, rfl, hb5, hn5, hm5, hA5⟩
  have nb5 : NewBag w w5 p A5 n5 c5 [sm 0 1, sm 1 2, sm 0 1] := nb4.out.step hb5 hm5 hA5
  have hn5' : n5 = 3 := by have := nb5.st.len; simpa using this.symm
  subst hn5'
  have htw : twiceB [sm 0 1, sm 1 2] 0 2 = true := rfl
  rw [htw]
  dsimp only
  clear hb5 hm5 hA5 nb4 htw
  replace nb5 := Lib.hid nb5
  go_wp2_with fail
  with_reducible refine (bagTake_ok w5 p A5 3 c5 _ nb5.out.st (by omega) 0).mono ?_
  rintro e w6 ⟨v, n6, rfl, hv, hb6, hn6, hm6⟩
  have hv' : v = .tuple #[.agg #[.int .i64 0, .int .i64 1, .int .i64 6, .int .i64 0, .int .i64 1, .int .i64 8, .int .i64 0, .int .i64 0, .int .i64 0, .int .i64 0, .int .i64 0, .string ⟨#[]⟩, .string ⟨#[]⟩, .int .i64 0, .slice none 0 0, .int .i64 0, .int .i64 0, .string ⟨#[]⟩, .bool false, .slice none 0 0], .bool true] := by
    rcases hv with ⟨x, hx, rfl⟩ | ⟨hx, _⟩
    · rw [look0] at hx; cases hx; rfl
    · rw [look0] at hx; cases hx
  subst hv'
  dsimp only
  have nb6 : NewBag w w6 p A5 n6 c5 [sm 1 2, sm 0 1] := nb5.out.step hb6 hm6 (fun k hk => .inl hk)
  have hn6' : n6 = 2 := by have := nb6.st.len; simpa using this.symm
  subst hn6'
  have hq := Lib.hid (Blk.new w6 46 #[.int .i64 0, .int .i64 0, .int .i64 0, .int .i64 0, .int .i64 0, .int .i64 0, .int .i64 0, .int .i64 0, .int .i64 0, .int .i64 0, .int .i64 0, .string ⟨#[]⟩, .string ⟨#[]⟩, .int .i64 0, .slice none 0 0, .int .i64 0, .int .i64 0, .string ⟨#[]⟩, .bool false, .slice none 0 0])
  clear hb6 hm6 nb5 hv
  replace nb6 := Lib.hid nb6
  have kB : ∀ W, Calls Tryz.prog 21 #[.agg #[.int .i64 0, .int .i64 1, .int .i64 6, .int .i64 0, .int .i64 1, .int .i64 8, .int .i64 0, .int .i64 0, .int .i64 0, .int .i64 0, .int .i64 0, .string ⟨#[]⟩, .string ⟨#[]⟩, .int .i64 0, .slice none 0 0, .int .i64 0, .int .i64 0, .string ⟨#[]⟩, .bool false, .slice none 0 0]] W (BPost W (rightM (smM 0 1)) (msgB (smM 0 1))) := fun W => postBytes_ok W (smM 0 1) ⟨none, 0, 0⟩ ⟨none, 0, 0⟩ (en0_mem W) (by decide) (by decide) (by decide) (fun l hl => by cases hl) (sm_nums 0 1)
  rw [show rightM (smM 0 1) = true from r01] at kB
  replace kB := Lib.hid kB
  go_wp2_with (first
    | (refine wpList_store_blk rfl 46 (.tmp 4) (.tmp 22) rfl w6.heap.size 0 _ rfl rfl hq.out (by simp) msg_size (by rfl) #[.int .i64 0, .int .i64 1, .int .i64 6, .int .i64 0, .int .i64 1, .int .i64 8, .int .i64 0, .int .i64 0, .int .i64 0, .int .i64 0, .int .i64 0, .string ⟨#[]⟩, .string ⟨#[]⟩, .int .i64 0, .slice none 0 0, .int .i64 0, .int .i64 0, .string ⟨#[]⟩, .bool false, .slice none 0 0] rfl ?_; intro w7 hq7 hm7; have hm7' := ((Mod.refl none_ w6).alloc (.cells #[.int .i64 0, .int .i64 0, .int .i64 0, .int .i64 0, .int .i64 0, .int .i64 0, .int .i64 0, .int .i64 0, .int .i64 0, .int .i64 0, .int .i64 0, .string ⟨#[]⟩, .string ⟨#[]⟩, .int .i64 0, .slice none 0 0, .int .i64 0, .int .i64 0, .string ⟨#[]⟩, .bool false, .slice none 0 0] 46)).in_new (Nat.le_refl _) hm7; have nb7 := Lib.hid (nb6.out.mod0 hm7'); replace hq7 := Lib.hid hq7; clear hm7 hm7')
    | (refine wpList_load_row rfl 46 (.tmp 4) rfl w6.heap.size rfl _ _ _ _ hq7.out Tryz.underlying46 rfl msg_size ?_))
  with_reducible refine (kB.out _).mono ?_
  rintro e w8 hpost
  obtain ⟨A8, c8, rfl, ho8, hf8, hm8⟩ : ∃ A c, e = .returned (.tuple #[.slice A (msgB (smM 0 1)).length c, .int .i64 0]) ∧ OwB w8 5 A (msgB (smM 0 1)).length c (msgB (smM 0 1)) ∧ Fresh w7 A ∧ Mod none_ w7 w8 := by
    rcases hpost with ⟨_, h⟩ | ⟨h, _⟩
    · exact h
    · cases h
  dsimp only
  have nb8 := Lib.hid (nb7.out.mod0 hm8)
  have hq8 := Lib.hid (hq7.out.mod hm8 (fun h => h))
  have hml : (msgB (smM 0 1)).length ≤ 1000 := by decide +kernel
  have kRd := postRead_ok w8 A8 _ c8 (msgB (smM 0 1)) ho8.rd (by omega)
  have hrd : rdMsg (msgB (smM 0 1)) = (smM 0 1, 0) := rdMsg_of r01 (sm_nums 0 1)
  rw [hrd] at kRd
  clear hrd
  generalize (msgB (smM 0 1)).length = n8 at *
  clear hpost ho8 hf8 hm8 nb7 hq7 hq nb6
  replace kRd := Lib.hid kRd
  go_wp2_with fail
  with_reducible refine kRd.out.mono ?_
  rintro e w9 ⟨m9, f9, L9, D9, he, rfl, hE9, hm9⟩
  simp only [Prod.mk.injEq] at he
  obtain ⟨hm9e, rfl⟩ := he
  have h0 : (((0 : Nat) : Int)) = 0 := rfl
  rw [h0]
  dsimp only
  have nb9 := Lib.hid (nb8.out.mod0 hm9)
  have hq9 := Lib.hid (hq8.out.mod hm9 (fun h => h))
  have hz9 := Lib.hid (Blk.new w9 46 #[.int .i64 0, .int .i64 0, .int .i64 0, .int .i64 0, .int .i64 0, .int .i64 0, .int .i64 0, .int .i64 0, .int .i64 0, .int .i64 0, .int .i64 0, .string ⟨#[]⟩, .string ⟨#[]⟩, .int .i64 0, .slice none 0 0, .int .i64 0, .int .i64 0, .string ⟨#[]⟩, .bool false, .slice none 0 0])
  have hql := Lib.hid (show w6.heap.size < w9.heap.size from hq9.out.lt)
  have hdef := Lib.hid (show decide (smM 0 1 = m9) = true from decide_eq_true hm9e)
  clear h0 hm9 nb8 hq8 kRd
  replace hm9e := Lib.hid hm9e
  replace hE9 := Lib.hid hE9
  have hL9 : Hid (L9.n ≤ 140737488355328 ∧ D9.n ≤ 140737488355328) := Lib.hid (by
    have h1 := hE9.out.od.rd.len
    have h2 := hE9.out.rd.len
    rw [← hm9e.out] at h1 h2
    exact ⟨by rw [← h1]; decide, by rw [← h2]; decide⟩)
  go_wp2_with (refine wpList_store_blk rfl 46 (.tmp 8) (.tmp 32) rfl w9.heap.size 0 _ rfl rfl hz9.out (by simp) msg_size (by rfl) #[.int .i64 m9.frm, .int .i64 m9.to, .int .i64 m9.kind, .int .i64 m9.r.i.r, .int .i64 m9.r.i.n, .int .i64 m9.r.bal, .int .i64 m9.r.st, .int .i64 m9.r.by_, .int .i64 m9.r.e.o.c, .int .i64 m9.r.e.o.s, .int .i64 m9.r.e.o.k, .string (txt m9.r.e.o.acct), .string (txt m9.r.e.o.peer), .int .i64 m9.r.e.o.sum, .slice L9.a L9.n L9.c, .int .i64 m9.r.e.o.per, .int .i64 m9.r.e.o.hold, .string (txt m9.r.e.o.note), .bool m9.r.e.none, .slice D9.a D9.n D9.c] rfl ?_; intro w10 hy10 hm10; have hm10' := ((Mod.refl none_ w9).alloc (.cells #[.int .i64 0, .int .i64 0, .int .i64 0, .int .i64 0, .int .i64 0, .int .i64 0, .int .i64 0, .int .i64 0, .int .i64 0, .int .i64 0, .int .i64 0, .string ⟨#[]⟩, .string ⟨#[]⟩, .int .i64 0, .slice none 0 0, .int .i64 0, .int .i64 0, .string ⟨#[]⟩, .bool false, .slice none 0 0] 46)).in_new (Nat.le_refl _) hm10; have nb10 := Lib.hid (nb9.out.mod0 hm10'); have hq10 := Lib.hid (hq9.out.mod hm10' (fun h => h)); have hE10 := Lib.hid (hE9.out.mod0 hm10'); replace hy10 := Lib.hid hy10; clear hm10 hm10')
  with_reducible refine (bagLen_ok w10 p A5 2 c5 _ nb10.out.st).mono ?_
  rintro e w11 ⟨rfl, rfl⟩
  have h2 : (((2 : Nat) : Int)) = 2 := rfl
  rw [h2]
  dsimp only
  clear h2
  have kS : Hid (Calls Tryz.prog 23 #[.agg #[.int .i64 0, .int .i64 1, .int .i64 6, .int .i64 0, .int .i64 1, .int .i64 8, .int .i64 0, .int .i64 0, .int .i64 0, .int .i64 0, .int .i64 0, .string ⟨#[]⟩, .string ⟨#[]⟩, .int .i64 0, .slice none 0 0, .int .i64 0, .int .i64 0, .string ⟨#[]⟩, .bool false, .slice none 0 0], .agg #[.int .i64 m9.frm, .int .i64 m9.to, .int .i64 m9.kind, .int .i64 m9.r.i.r, .int .i64 m9.r.i.n, .int .i64 m9.r.bal, .int .i64 m9.r.st, .int .i64 m9.r.by_, .int .i64 m9.r.e.o.c, .int .i64 m9.r.e.o.s, .int .i64 m9.r.e.o.k, .string (txt m9.r.e.o.acct), .string (txt m9.r.e.o.peer), .int .i64 m9.r.e.o.sum, .slice L9.a L9.n L9.c, .int .i64 m9.r.e.o.per, .int .i64 m9.r.e.o.hold, .string (txt m9.r.e.o.note), .bool m9.r.e.none, .slice D9.a D9.n D9.c]] w10 fun e w' => e = .returned (.bool (decide (smM 0 1 = m9))) ∧ Mod none_ w10 w') := Lib.hid (sameM_ok w10 (smM 0 1) m9 ⟨none, 0, 0⟩ ⟨none, 0, 0⟩ L9 D9 (en0_mem _) hE10.out (by decide) (by decide) hL9.out.1 hL9.out.2)
  rw [hdef.out] at kS
  go_wp2_with (first
    | (refine wpList_step (fun K hK => ?_); rw [if_pos (by rfl)]; refine wp_load_row 46 (.tmp 4) rfl w6.heap.size rfl _ _ _ _ hq10.out Tryz.underlying46 rfl msg_size ?_; refine hK _ _ ?_)
    | (refine wpList_step (fun K hK => ?_); rw [if_pos (by rfl)]; refine wp_load_row 46 (.tmp 8) rfl w9.heap.size rfl _ _ _ _ hy10.out Tryz.underlying46 rfl msg_size ?_; refine hK _ _ ?_))
  with_reducible refine kS.out.mono ?_
  rintro e w12 ⟨rfl, hm12⟩
  dsimp only
  have nb12 := Lib.hid (nb10.out.mod0 hm12)
  have hq12 := Lib.hid (hq10.out.mod hm12 (fun h => h))
  clear hm12 nb10 hq10 kS hy10 hE10
  go_wp2_with fail
  with_reducible refine (bagFor_ok w12 p A5 2 c5 _ nb12.out.st (by omega) 1).mono ?_
  rintro e w13 ⟨A13, m13, c13, rfl, ho13, hf13, hm13⟩
  have h1 : m13 = 1 := by
    have := ho13.1
    have e : places 1 0 [sm 1 2, sm 0 1] = [1] := by decide
    rw [e] at this
    simpa [ivs] using this.symm
  subst h1
  dsimp only
  have nb13 := Lib.hid (nb12.out.mod0 hm13)
  have hq13 := Lib.hid (hq12.out.mod hm13 (fun h => h))
  clear hm13 nb12 hq12 ho13 hf13
  have kR : ∀ W, Calls Tryz.prog 24 #[.agg #[.int .i64 0, .int .i64 1, .int .i64 6, .int .i64 0, .int .i64 1, .int .i64 8, .int .i64 0, .int .i64 0, .int .i64 0, .int .i64 0, .int .i64 0, .string ⟨#[]⟩, .string ⟨#[]⟩, .int .i64 0, .slice none 0 0, .int .i64 0, .int .i64 0, .string ⟨#[]⟩, .bool false, .slice none 0 0]] W fun e' w' => e' = .returned (.bool (rightM (smM 0 1))) ∧ Mod none_ W w' := fun W => rightM_ok W (smM 0 1) ⟨none, 0, 0⟩ ⟨none, 0, 0⟩ (en0_mem W) (by decide) (by decide) (by decide) (fun l hl => by cases hl)
  rw [show rightM (smM 0 1) = true from r01] at kR
  replace kR := Lib.hid kR
  go_wp2_with (refine wpList_step (fun K hK => ?_); rw [if_pos (by rfl)]; refine wp_load_row 46 (.tmp 4) rfl w6.heap.size rfl _ _ _ _ hq13.out Tryz.underlying46 rfl msg_size ?_; refine hK _ _ ?_)
  with_reducible refine (kR.out _).mono ?_
  rintro e w14 ⟨rfl, hm14⟩
  dsimp only
  replace hm14 := Lib.hid hm14
  go_wp2_with fail
  go_ret
  exact ⟨rfl, nb13.out.mod.trans hm14.out⟩
end Go.Proofs.YtdekehhmjehicaaGreat
/-
  The law's few: the first messages, with few legs, and Deps. No condition.
-/
namespace Go.Proofs.YtdekehhmjehicaaGreat
set_option linter.unusedVariables false
set_option linter.unusedSimpArgs false
open Go.RowKit
def cutM (x : Ms) : Ms := ⟨⟨x.m.frm, x.m.to, x.m.kind, ⟨x.m.r.i, x.m.r.bal, x.m.r.st, x.m.r.by_, ⟨⟨x.m.r.e.o.c, x.m.r.e.o.s, x.m.r.e.o.k, x.m.r.e.o.acct, x.m.r.e.o.peer, x.m.r.e.o.sum, x.m.r.e.o.legs.take 8, x.m.r.e.o.per, x.m.r.e.o.hold, x.m.r.e.o.note⟩, x.m.r.e.none, x.m.r.e.deps.take 110⟩⟩⟩, ⟨x.L.a, min x.L.n 8, x.L.c⟩, ⟨x.D.a, min x.D.n 110, x.D.c⟩⟩
def fewL (xs : List Ms) (n : Nat) : List Ms := (xs.take n).map cutM
theorem lgs_take (ls : List Lg) (k : Nat) : (lgs ls).take (k * 2) = lgs (ls.take k) := by
  induction ls generalizing k with
  | nil => simp [lgs]
  | cons l ls ih =>
    cases k with
    | zero => simp [lgs]
    | succ k =>
      show (_ :: _ :: lgs ls).take ((k + 1) * 2) = _ :: _ :: lgs (ls.take k)
      rw [show (k + 1) * 2 = k * 2 + 1 + 1 by omega, List.take_succ_cons, List.take_succ_cons, ih]
theorem iss_take (ls : List Is) (k : Nat) : (iss ls).take (k * 2) = iss (ls.take k) := by
  induction ls generalizing k with
  | nil => simp [iss]
  | cons l ls ih =>
    cases k with
    | zero => simp [iss]
    | succ k =>
      show (_ :: _ :: iss ls).take ((k + 1) * 2) = _ :: _ :: iss (ls.take k)
      rw [show (k + 1) * 2 = k * 2 + 1 + 1 by omega, List.take_succ_cons, List.take_succ_cons, ih]
theorem cut_mem {w : World} {x : Ms} (h : EnM w x.m.r.e x.L x.D) : EnM w (cutM x).m.r.e (cutM x).L (cutM x).D := by
  have h1 := Rd.take_ h.od.rd (k := min x.L.n 8) (Nat.min_le_left _ _)
  have h2 := Rd.take_ h.rd (k := min x.D.n 110) (Nat.min_le_left _ _)
  rw [lgs_take] at h1
  rw [iss_take] at h2
  have e1 : x.m.r.e.o.legs.take (min x.L.n 8) = x.m.r.e.o.legs.take 8 := by have := h.od.rd.len; rw [← this, List.take_eq_take_iff]; omega
  have e2 : x.m.r.e.deps.take (min x.D.n 110) = x.m.r.e.deps.take 110 := by have := h.rd.len; rw [← this, List.take_eq_take_iff]; omega
  rw [e1] at h1
  rw [e2] at h2
  exact ⟨⟨h1, Nat.le_trans (Nat.min_le_left _ _) h.od.cap⟩, h2, Nat.le_trans (Nat.min_le_left _ _) h.cap⟩
theorem cut_ok {x : Ms} (h : MsOk x) : MsOk (cutM x) := by
  obtain ⟨h1, h2, h3, h4⟩ := h
  refine ⟨?_, ?_, h3, fun l hl => h4 l (List.mem_of_mem_take hl)⟩
  · show min x.L.n 8 ≤ _; omega
  · show min x.D.n 110 ≤ _; omega
theorem few_succ {xs : List Ms} {j : Nat} {x : Ms} (h : xs[j]? = some x) : fewL xs (j + 1) = fewL xs j ++ [cutM x] := by
  unfold fewL
  rw [List.take_add_one, h]
  simp
theorem few_len {xs : List Ms} {j : Nat} (h : j ≤ xs.length) : (fewL xs j).length = j := by unfold fewL; simp; omega
set_option maxRecDepth 100000 in
set_option maxHeartbeats 8000000 in
theorem few_ok (w : World) (A : Option Addr) (N c : Nat) (xs : List Ms) (h : RdM w A N xs) (hE : MsM w xs) (hk : ∀ x ∈ xs, MsOk x) (hN : N ≤ 140737488355328) (n : Nat) (hn : n ≤ 400) :
    Calls Tryz.prog 6 #[.slice A N c, .int .i64 (n : Int)] w fun e w' =>
      ∃ A' m c', e = .returned (.slice A' m c') ∧ OwM w' A' m c' (fewL xs n) ∧ Fresh w A' ∧ Mod none_ w w' := by
  have hl := Lib.hid h.len
  replace h := Lib.hid h
  replace hE := Lib.hid hE
  replace hk := Lib.hid hk
  go_enter Tryz.func6, Tryz.ntmps6
  go_wp2_with fail
  go_loopw [5, 6] (fun v y wr => ∃ j : Nat, y = .int .i64 j ∧ j ≤ N ∧ j ≤ n ∧ ∃ B d, v = .slice B j d ∧ OwM wr B j d (fewL xs j) ∧ Fresh w B ∧ Mod none_ w wr) (fun _ y _ => n - (intOf y).toNat)
  case atStart => exact ⟨0, rfl, by omega, by omega, none, 0, rfl, Ow.nil _ _ _, (fun a ha => by cases ha), Mod.refl _ _⟩
  case round =>
    obtain ⟨j, rfl, hjN, hjn, B, d, rfl, ho, hf, hm⟩ := hrel
    by_cases hlt : j < N
    · by_cases hlt2 : j < n
      · obtain ⟨b, o, x, hA, hxm, hx, hrg⟩ := rdm_get (w := wr) (Rd.mod0 h.out hm) hlt
        subst hA
        unfold msC at hrg
        have hb0 := Lib.hid (Blk.new wr 46 #[.int .i64 0, .int .i64 0, .int .i64 0, .int .i64 0, .int .i64 0, .int .i64 0, .int .i64 0, .int .i64 0, .int .i64 0, .int .i64 0, .int .i64 0, .string ⟨#[]⟩, .string ⟨#[]⟩, .int .i64 0, .slice none 0 0, .int .i64 0, .int .i64 0, .string ⟨#[]⟩, .bool false, .slice none 0 0])
        have hEx := hE.out x hxm
        obtain ⟨q1, q2, _, _⟩ := hk.out x hxm
        have q3 := hEx.od.cap
        have q4 := hEx.cap
        have q5 : min (x.L.n : Int) 8 = ((min x.L.n 8 : Nat) : Int) := by omega
        have q6 : min (x.D.n : Int) 110 = ((min x.D.n 110 : Nat) : Int) := by omega
        have q7 : ((min x.L.n 8 : Nat) : Int) ≤ (x.L.c : Int) := by omega
        have q8 : ((min x.D.n 110 : Nat) : Int) ≤ (x.D.c : Int) := by omega
        have q9 : min x.L.n 8 ≤ x.L.c := by omega
        have q10 : min x.D.n 110 ≤ x.D.c := by omega
        clear hEx
        replace ho := Lib.hid ho
        replace hf := Lib.hid hf
        replace hm := Lib.hid hm
        replace hxm := Lib.hid hxm
        replace hx := Lib.hid hx
        replace hrg := Lib.hid hrg
        go_upto_region 6 with (first
          | (refine wpList_load_mid rfl 46 (.tmp 21) rfl b (o + j * 20) rfl _ _ hrg.out Tryz.underlying46 rfl msg_size ?_)
          | (refine wpList_store_blk rfl 46 (.tmp 7) (.tmp 22) rfl wr.heap.size 0 _ rfl rfl hb0.out (by simp) msg_size (by rfl) #[.int .i64 x.m.frm, .int .i64 x.m.to, .int .i64 x.m.kind, .int .i64 x.m.r.i.r, .int .i64 x.m.r.i.n, .int .i64 x.m.r.bal, .int .i64 x.m.r.st, .int .i64 x.m.r.by_, .int .i64 x.m.r.e.o.c, .int .i64 x.m.r.e.o.s, .int .i64 x.m.r.e.o.k, .string (txt x.m.r.e.o.acct), .string (txt x.m.r.e.o.peer), .int .i64 x.m.r.e.o.sum, .slice x.L.a x.L.n x.L.c, .int .i64 x.m.r.e.o.per, .int .i64 x.m.r.e.o.hold, .string (txt x.m.r.e.o.note), .bool x.m.r.e.none, .slice x.D.a x.D.n x.D.c] rfl ?_; intro w2 hb2 hm2))
        have hm2' := ((Mod.refl none_ wr).alloc (.cells #[.int .i64 0, .int .i64 0, .int .i64 0, .int .i64 0, .int .i64 0, .int .i64 0, .int .i64 0, .int .i64 0, .int .i64 0, .int .i64 0, .int .i64 0, .string ⟨#[]⟩, .string ⟨#[]⟩, .int .i64 0, .slice none 0 0, .int .i64 0, .int .i64 0, .string ⟨#[]⟩, .bool false, .slice none 0 0] 46)).in_new (Nat.le_refl _) hm2
        have hM2 := Lib.hid (hm.out.trans hm2')
        have ho2 := Lib.hid (ho.out.mod0 hm2')
        have hvw := Lib.hid (show w.heap.size ≤ wr.heap.size from hm.out.size)
        have hBv := Lib.hid (show ∀ k, fp B k → k < wr.heap.size from ho.out.lt)
        generalize hv : wr.heap.size = v at *
        clear hm2 hm2'
        replace hv := Lib.hid hv
        have i0 : w2.cell? ⟨v, 14, none⟩ = some (.slice x.L.a x.L.n x.L.c) := hb2.cell_ rfl
        have i1 : w2.cell? ⟨v, 19, none⟩ = some (.slice x.D.a x.D.n x.D.c) := hb2.cell_ rfl
        have f0 : w2.frozen? ⟨v, 14, none⟩ = false := hb2.frozen 14
        have f1 : w2.frozen? ⟨v, 19, none⟩ = false := hb2.frozen 19
        have hb3 : Hid (Blk ((w2.setCell ⟨v, 14, none⟩ (.slice x.L.a (min x.L.n 8) x.L.c)).setCell ⟨v, 19, none⟩ (.slice x.D.a (min x.D.n 110) x.D.c)) v 46 #[.int .i64 x.m.frm, .int .i64 x.m.to, .int .i64 x.m.kind, .int .i64 x.m.r.i.r, .int .i64 x.m.r.i.n, .int .i64 x.m.r.bal, .int .i64 x.m.r.st, .int .i64 x.m.r.by_, .int .i64 x.m.r.e.o.c, .int .i64 x.m.r.e.o.s, .int .i64 x.m.r.e.o.k, .string (txt x.m.r.e.o.acct), .string (txt x.m.r.e.o.peer), .int .i64 x.m.r.e.o.sum, .slice x.L.a (min x.L.n 8) x.L.c, .int .i64 x.m.r.e.o.per, .int .i64 x.m.r.e.o.hold, .string (txt x.m.r.e.o.note), .bool x.m.r.e.none, .slice x.D.a (min x.D.n 110) x.D.c]) := Lib.hid ((hb2.set_ 14 _).set_ 19 _)
        have hM3 := Lib.hid (((Mod.refl (only v) w2).set_only 14 (.slice x.L.a (min x.L.n 8) x.L.c)).set_only 19 (.slice x.D.a (min x.D.n 110) x.D.c))
        replace hb2 := Lib.hid hb2
        go_upto_region 8 with fail
        generalize hW : ((w2.setCell ⟨v, 14, none⟩ (.slice x.L.a (min x.L.n 8) x.L.c)).setCell ⟨v, 19, none⟩ (.slice x.D.a (min x.D.n 110) x.D.c)) = W at *
        replace hW := Lib.hid hW
        have hM4 := Lib.hid ((hM2.out.in_new hvw.out hM3.out).alloc (.cells #[.int .i64 x.m.frm, .int .i64 x.m.to, .int .i64 x.m.kind, .int .i64 x.m.r.i.r, .int .i64 x.m.r.i.n, .int .i64 x.m.r.bal, .int .i64 x.m.r.st, .int .i64 x.m.r.by_, .int .i64 x.m.r.e.o.c, .int .i64 x.m.r.e.o.s, .int .i64 x.m.r.e.o.k, .string (txt x.m.r.e.o.acct), .string (txt x.m.r.e.o.peer), .int .i64 x.m.r.e.o.sum, .slice x.L.a (min x.L.n 8) x.L.c, .int .i64 x.m.r.e.o.per, .int .i64 x.m.r.e.o.hold, .string (txt x.m.r.e.o.note), .bool x.m.r.e.none, .slice x.D.a (min x.D.n 110) x.D.c] 46))
        have ho4 := Lib.hid ((ho2.out.mod hM3.out (fun k hk hh => by have : k = v := hh; have := hBv.out k hk; omega)).mod0 ((Mod.refl none_ W).alloc (.cells #[.int .i64 x.m.frm, .int .i64 x.m.to, .int .i64 x.m.kind, .int .i64 x.m.r.i.r, .int .i64 x.m.r.i.n, .int .i64 x.m.r.bal, .int .i64 x.m.r.st, .int .i64 x.m.r.by_, .int .i64 x.m.r.e.o.c, .int .i64 x.m.r.e.o.s, .int .i64 x.m.r.e.o.k, .string (txt x.m.r.e.o.acct), .string (txt x.m.r.e.o.peer), .int .i64 x.m.r.e.o.sum, .slice x.L.a (min x.L.n 8) x.L.c, .int .i64 x.m.r.e.o.per, .int .i64 x.m.r.e.o.hold, .string (txt x.m.r.e.o.note), .bool x.m.r.e.none, .slice x.D.a (min x.D.n 110) x.D.c] 46)))
        have hone := Lib.hid (show RdM (W.alloc (.cells #[.int .i64 x.m.frm, .int .i64 x.m.to, .int .i64 x.m.kind, .int .i64 x.m.r.i.r, .int .i64 x.m.r.i.n, .int .i64 x.m.r.bal, .int .i64 x.m.r.st, .int .i64 x.m.r.by_, .int .i64 x.m.r.e.o.c, .int .i64 x.m.r.e.o.s, .int .i64 x.m.r.e.o.k, .string (txt x.m.r.e.o.acct), .string (txt x.m.r.e.o.peer), .int .i64 x.m.r.e.o.sum, .slice x.L.a (min x.L.n 8) x.L.c, .int .i64 x.m.r.e.o.per, .int .i64 x.m.r.e.o.hold, .string (txt x.m.r.e.o.note), .bool x.m.r.e.none, .slice x.D.a (min x.D.n 110) x.D.c] 46)) (some ⟨W.heap.size, 0, none⟩) 1 [cutM x] from rdM_one W (cutM x))
        have hsn := Lib.hid (few_succ hx.out)
        clear i0 i1 f0 f1 hM2 ho2 hM3 hBv
        go_wp2_with (first
          | (refine wpList_load_row rfl 46 (.tmp 7) rfl v rfl _ _ _ _ hb3.out Tryz.underlying46 rfl msg_size ?_)
          | (at_builtin; go_loud (refine appM rfl (.tmp 48) (.tmp 50) rfl rfl ho4.out rfl hone.out (by omega) ?_; intro A5 c5 w5 ho5 hm5 hA5; replace ho5 := Lib.hid ho5; replace hm5 := Lib.hid hm5; replace hA5 := Lib.hid hA5)))
        go_roundw
        case rel => exact ⟨j + 1, by go_num, by omega, by omega, A5, c5, rfl, by rw [hsn.out]; exact ho5.out, Fresh.app hf.out hM4.out.size hA5.out, hM4.out.app hf.out hm5.out⟩
        case measure => simp [intOf]; omega
      · obtain rfl : j = n := by omega
        replace ho := Lib.hid ho
        replace hf := Lib.hid hf
        replace hm := Lib.hid hm
        go_wp2_with fail
        go_ret
        exact ⟨B, j, d, rfl, ho.out, hf.out, hm.out⟩
    · obtain rfl : j = N := by omega
      have e : fewL xs n = fewL xs j := by
        unfold fewL
        rw [List.take_of_length_le (l := xs) (i := n) (by rw [hl.out]; exact hjn), List.take_of_length_le (l := xs) (i := j) (by rw [hl.out]; exact Nat.le_refl _)]
      rw [← e] at ho
      clear e
      replace ho := Lib.hid ho
      replace hf := Lib.hid hf
      replace hm := Lib.hid hm
      go_wp2_with fail
      go_ret
      exact ⟨B, j, d, rfl, ho.out, hf.out, hm.out⟩
end Go.Proofs.YtdekehhmjehicaaGreat
/-
  How lists of messages read as arguments.
-/
namespace Go.Proofs.YtdekehhmjehicaaGreat
set_option linter.unusedVariables false
set_option linter.unusedSimpArgs false
open Go.ChangeShapes Go.WideShapes Go.ChangeAt Go.RowKit Go.Deep
section
variable {P : Program} {H : Type} {enc : TypeId × Value → H} {w : World} {held : Bool}
theorem open_part {t : TypeId} {fs : Array Field} {fuel : Nat} {cs : List Value} {x : DataW H × List MemPlace} (he : P.underlying t = some (.struct fs))
    (h : DataW.trod enc P w 0 (fun _ => true) held fuel t cs = some x) (hw : Wd P t x.1) (j : Nat) (f : Field) (hj : fs[j]? = some f) :
    ∃ (m : Nat) (y : DataW H × List MemPlace), DataW.trod enc P w 0 (fun _ => true) held m f.type ((cs.drop f.offset).take (P.cellsOf f.type)) = some y ∧ Wd P f.type y.1 := by
  obtain ⟨ys, n', _, rfl, hlen, hyl, hf⟩ := DataW.trod_struct he h
  have hjl : j < fs.size := (Array.getElem?_eq_some_iff.1 hj).1
  have hys : ys[j]? = some (ys[j]'(by omega)) := List.getElem?_eq_getElem (by omega)
  have h1 := hf j f hj
  rw [hys] at h1
  exact ⟨n', _, h1, wd_struct he hw hj (by rw [List.getElem?_map, hys] <;> rfl)⟩
end
theorem one_at {l : List Value} {o : Nat} {v : Value} (h : (l.drop o).take 1 = [v]) : l[o]? = some v := by
  have := congrArg (·[0]?) h
  simpa [List.getElem?_take, List.getElem?_drop] using this
theorem sub_at {l : List Value} {a k o : Nat} {v : Value} (h : ((l.drop a).take k)[o]? = some v) : l[a + o]? = some v := by
  rw [List.getElem?_take] at h
  split at h
  · rwa [List.getElem?_drop] at h
  · cases h
theorem in64_wf {x : Int} (h : (Lit.int .i64 x).wf = true) : in64 x := by
  have : IntKind.i64.min ≤ x ∧ x ≤ IntKind.i64.max := by
    have h' : (decide (IntKind.i64.min ≤ x) && decide (x ≤ IntKind.i64.max)) = true := h
    simpa using h'
  have h1 : IntKind.i64.min = -9223372036854775808 := by decide
  have h2 : IntKind.i64.max = 9223372036854775807 := by decide
  rw [h1, h2] at this
  exact this
set_option maxRecDepth 100000 in
theorem open_legsM {H : Type} {enc : TypeId × Value → H} {w : World} {held : Bool} {fuel : Nat} {cs : List Value} {x : DataW H × List MemPlace}
    (h : DataW.trod enc Tryz.prog w 0 (fun _ => true) held fuel 39 cs = some x) (hw : Wd Tryz.prog 39 x.1) :
    ∃ (A : Option Addr) (n c : Nat) (os : List Lg), cs = [.slice A n c] ∧ RdL w A n os ∧ n ≤ c ∧ n ≤ 140737488351232 ∧ (∀ o ∈ os, ((txt o.n).size ≤ maxLen ∧ in64 o.x)) := by
  obtain ⟨A, n, c, css, D, rfl, hc, hi⟩ := open_any Tryz.underlying39 (by kernel_rfl : Tryz.prog.cellsOf 109 = 2) (by omega) h hw
  have hch : ∀ i, i < n → ∃ o : Lg, css i = [.string (txt o.n), .int .i64 o.x] ∧ ((txt o.n).size ≤ maxLen ∧ in64 o.x) := by
    intro i hin
    obtain ⟨hlen, hwd, m, pl, htr⟩ := hi i hin
    obtain ⟨h3, hf⟩ := open_fields Tryz.underlying109 (by kernel_rfl) (by kernel_rfl) htr hwd
    obtain ⟨v0, m0, y0, c0, t0, _⟩ := hf 0 _ rfl
    obtain ⟨v1, m1, y1, c1, t1, _⟩ := hf 1 _ rfl
    obtain ⟨s, e0, _, w0⟩ := DataW.trod_string Tryz.underlying9 t0
    obtain ⟨x1, e1, _, w1⟩ := DataW.trod_int Tryz.underlying2 t1
    simp only [List.cons.injEq, and_true] at e0 e1
    subst e0 e1
    refine ⟨⟨s.data.toList, x1⟩, ?_, w0, in64_wf w1⟩
    generalize css i = l at *
    match l, hlen, c0, c1 with
    | [a, b], _, c0, c1 =>
      simp at c0 c1
      subst c0 c1; rfl
  obtain ⟨os, hl, hz⟩ := list_choice _ n hch
  have e1 : (List.range n).flatMap css = lgs os := by
    unfold lgs
    rw [← hl, flat_range (fun o : Lg => [.string (txt o.n), .int .i64 o.x]) css os fun i e hie => (hz i e hie).1]
  rw [e1] at hc
  refine ⟨A, n, c, os, rfl, hc.1, hc.2.1, ?_, fun o ho => ?_⟩
  · have h4 := hc.2.2.2.1
    have h2 := hc.2.1
    have hb : 1 ≤ Tryz.prog.bytesOf 109 := by
      have : Tryz.prog.bytesOf 109 = 24 := by kernel_rfl
      omega
    have := Nat.mul_le_mul_left c hb
    omega
  · obtain ⟨i, hi1, hi2⟩ := List.getElem_of_mem ho
    exact (hz i o (by rw [List.getElem?_eq_getElem hi1, hi2])).2
set_option maxRecDepth 100000 in
theorem open_depsM {H : Type} {enc : TypeId × Value → H} {w : World} {held : Bool} {fuel : Nat} {cs : List Value} {x : DataW H × List MemPlace}
    (h : DataW.trod enc Tryz.prog w 0 (fun _ => true) held fuel 42 cs = some x) (hw : Wd Tryz.prog 42 x.1) :
    ∃ (A : Option Addr) (n c : Nat) (os : List Is), cs = [.slice A n c] ∧ RdP w A n os ∧ n ≤ c ∧ n ≤ 140737488351232 ∧ (∀ o ∈ os, (in64 o.r ∧ in64 o.n)) := by
  obtain ⟨A, n, c, css, D, rfl, hc, hi⟩ := open_any Tryz.underlying42 (by kernel_rfl : Tryz.prog.cellsOf 36 = 2) (by omega) h hw
  have hch : ∀ i, i < n → ∃ o : Is, css i = [.int .i64 o.r, .int .i64 o.n] ∧ (in64 o.r ∧ in64 o.n) := by
    intro i hin
    obtain ⟨hlen, hwd, m, pl, htr⟩ := hi i hin
    obtain ⟨h3, hf⟩ := open_fields Tryz.underlying36 (by kernel_rfl) (by kernel_rfl) htr hwd
    obtain ⟨v0, m0, y0, c0, t0, _⟩ := hf 0 _ rfl
    obtain ⟨v1, m1, y1, c1, t1, _⟩ := hf 1 _ rfl
    obtain ⟨x0, e0, _, w0⟩ := DataW.trod_int Tryz.underlying3 t0
    obtain ⟨x1, e1, _, w1⟩ := DataW.trod_int Tryz.underlying3 t1
    simp only [List.cons.injEq, and_true] at e0 e1
    subst e0 e1
    refine ⟨⟨x0, x1⟩, ?_, in64_wf w0, in64_wf w1⟩
    generalize css i = l at *
    match l, hlen, c0, c1 with
    | [a, b], _, c0, c1 =>
      simp at c0 c1
      subst c0 c1; rfl
  obtain ⟨os, hl, hz⟩ := list_choice _ n hch
  have e1 : (List.range n).flatMap css = iss os := by
    unfold iss
    rw [← hl, flat_range (fun o : Is => [.int .i64 o.r, .int .i64 o.n]) css os fun i e hie => (hz i e hie).1]
  rw [e1] at hc
  refine ⟨A, n, c, os, rfl, hc.1, hc.2.1, ?_, fun o ho => ?_⟩
  · have h4 := hc.2.2.2.1
    have h2 := hc.2.1
    have hb : 1 ≤ Tryz.prog.bytesOf 36 := by
      have : Tryz.prog.bytesOf 36 = 16 := by kernel_rfl
      omega
    have := Nat.mul_le_mul_left c hb
    omega
  · obtain ⟨i, hi1, hi2⟩ := List.getElem_of_mem ho
    exact (hz i o (by rw [List.getElem?_eq_getElem hi1, hi2])).2
theorem trod_cut {H : Type} {P : Program} {enc : TypeId × Value → H} {w : World} {held : Bool} {t : TypeId} {m o' k' o k : Nat} {cs : List Value} {y : DataW H × List MemPlace} (h : DataW.trod enc P w 0 (fun _ => true) held m t ((cs.drop o').take k') = some y) (ho : o' = o) (hk : k' = k) :
    DataW.trod enc P w 0 (fun _ => true) held m t ((cs.drop o).take k) = some y := by subst ho hk; exact h
def MsGood (w : World) (x : Ms) : Prop := EnM w x.m.r.e x.L x.D ∧ MsOk x ∧ numsE x.m.r.e ∧ (txt x.m.r.e.o.acct).size ≤ maxLen ∧ (txt x.m.r.e.o.peer).size ≤ maxLen
set_option maxRecDepth 100000 in
set_option maxHeartbeats 4000000 in
theorem open_msg {H : Type} {enc : TypeId × Value → H} {w : World} {held : Bool} {fuel : Nat} {cs : List Value} {x : DataW H × List MemPlace}
    (h : DataW.trod enc Tryz.prog w 0 (fun _ => true) held fuel 46 cs = some x) (hw : Wd Tryz.prog 46 x.1) (hl : cs.length = 20) :
    ∃ m : Ms, cs = msC m ∧ MsGood w m := by
  obtain ⟨mfr, yfr, tfr, wfr⟩ := open_part Tryz.underlying46 h hw 0 _ rfl
  replace tfr := trod_cut tfr (o := 0) (k := 1) (by kernel_rfl) (by kernel_rfl)
  obtain ⟨xfr, efr, _, ffr⟩ := DataW.trod_int Tryz.underlying3 tfr
  obtain ⟨mto, yto, tto, wto⟩ := open_part Tryz.underlying46 h hw 1 _ rfl
  replace tto := trod_cut tto (o := 1) (k := 1) (by kernel_rfl) (by kernel_rfl)
  obtain ⟨xto, eto, _, fto⟩ := DataW.trod_int Tryz.underlying3 tto
  obtain ⟨mkd, ykd, tkd, wkd⟩ := open_part Tryz.underlying46 h hw 2 _ rfl
  replace tkd := trod_cut tkd (o := 2) (k := 1) (by kernel_rfl) (by kernel_rfl)
  obtain ⟨xkd, ekd, _, fkd⟩ := DataW.trod_int Tryz.underlying3 tkd
  obtain ⟨min, yin, tin, win⟩ := open_part Tryz.underlying46 h hw 3 _ rfl
  replace tin := trod_cut tin (o := 3) (k := 2) (by kernel_rfl) (by kernel_rfl)
  obtain ⟨mir, yir, tir, wir⟩ := open_part Tryz.underlying36 tin win 0 _ rfl
  replace tir := trod_cut tir (o := 0) (k := 1) (by kernel_rfl) (by kernel_rfl)
  obtain ⟨xir, eir, _, fir⟩ := DataW.trod_int Tryz.underlying3 tir
  obtain ⟨mii, yii, tii, wii⟩ := open_part Tryz.underlying36 tin win 1 _ rfl
  replace tii := trod_cut tii (o := 1) (k := 1) (by kernel_rfl) (by kernel_rfl)
  obtain ⟨xii, eii, _, fii⟩ := DataW.trod_int Tryz.underlying3 tii
  obtain ⟨mbl, ybl, tbl, wbl⟩ := open_part Tryz.underlying46 h hw 4 _ rfl
  replace tbl := trod_cut tbl (o := 5) (k := 1) (by kernel_rfl) (by kernel_rfl)
  obtain ⟨xbl, ebl, _, fbl⟩ := DataW.trod_int Tryz.underlying3 tbl
  obtain ⟨mst, yst, tst, wst⟩ := open_part Tryz.underlying46 h hw 5 _ rfl
  replace tst := trod_cut tst (o := 6) (k := 1) (by kernel_rfl) (by kernel_rfl)
  obtain ⟨xst, est, _, fst⟩ := DataW.trod_int Tryz.underlying3 tst
  obtain ⟨mby, yby, tby, wby⟩ := open_part Tryz.underlying46 h hw 6 _ rfl
  replace tby := trod_cut tby (o := 7) (k := 1) (by kernel_rfl) (by kernel_rfl)
  obtain ⟨xby, eby, _, fby⟩ := DataW.trod_int Tryz.underlying3 tby
  obtain ⟨men, yen, ten, wen⟩ := open_part Tryz.underlying46 h hw 7 _ rfl
  replace ten := trod_cut ten (o := 8) (k := 12) (by kernel_rfl) (by kernel_rfl)
  obtain ⟨mod, yod, tod, wod⟩ := open_part Tryz.underlying44 ten wen 0 _ rfl
  replace tod := trod_cut tod (o := 0) (k := 10) (by kernel_rfl) (by kernel_rfl)
  obtain ⟨mid, yid, tid, wid⟩ := open_part Tryz.underlying41 tod wod 0 _ rfl
  replace tid := trod_cut tid (o := 0) (k := 2) (by kernel_rfl) (by kernel_rfl)
  obtain ⟨mic, yic, tic, wic⟩ := open_part Tryz.underlying38 tid wid 0 _ rfl
  replace tic := trod_cut tic (o := 0) (k := 1) (by kernel_rfl) (by kernel_rfl)
  obtain ⟨xic, eic, _, fic⟩ := DataW.trod_int Tryz.underlying3 tic
  obtain ⟨mis, yis, tis, wis⟩ := open_part Tryz.underlying38 tid wid 1 _ rfl
  replace tis := trod_cut tis (o := 1) (k := 1) (by kernel_rfl) (by kernel_rfl)
  obtain ⟨xis, eis, _, fis⟩ := DataW.trod_int Tryz.underlying3 tis
  obtain ⟨mok, yok, tok, wok⟩ := open_part Tryz.underlying41 tod wod 1 _ rfl
  replace tok := trod_cut tok (o := 2) (k := 1) (by kernel_rfl) (by kernel_rfl)
  obtain ⟨xok, eok, _, fok⟩ := DataW.trod_int Tryz.underlying3 tok
  obtain ⟨mac, yac, tac, wac⟩ := open_part Tryz.underlying41 tod wod 2 _ rfl
  replace tac := trod_cut tac (o := 3) (k := 1) (by kernel_rfl) (by kernel_rfl)
  obtain ⟨xac, eac, _, fac⟩ := DataW.trod_string Tryz.underlying9 tac
  obtain ⟨mpe, ype, tpe, wpe⟩ := open_part Tryz.underlying41 tod wod 3 _ rfl
  replace tpe := trod_cut tpe (o := 4) (k := 1) (by kernel_rfl) (by kernel_rfl)
  obtain ⟨xpe, epe, _, fpe⟩ := DataW.trod_string Tryz.underlying9 tpe
  obtain ⟨msu, ysu, tsu, wsu⟩ := open_part Tryz.underlying41 tod wod 4 _ rfl
  replace tsu := trod_cut tsu (o := 5) (k := 1) (by kernel_rfl) (by kernel_rfl)
  obtain ⟨xsu, esu, _, fsu⟩ := DataW.trod_int Tryz.underlying2 tsu
  obtain ⟨mlg, ylg, tlg, wlg⟩ := open_part Tryz.underlying41 tod wod 5 _ rfl
  replace tlg := trod_cut tlg (o := 6) (k := 1) (by kernel_rfl) (by kernel_rfl)
  obtain ⟨LA, Ln, Lc, xlg, elg, rL, cL, bL, oL⟩ := open_legsM tlg wlg
  obtain ⟨mpr, ypr, tpr, wpr⟩ := open_part Tryz.underlying41 tod wod 6 _ rfl
  replace tpr := trod_cut tpr (o := 7) (k := 1) (by kernel_rfl) (by kernel_rfl)
  obtain ⟨xpr, epr, _, fpr⟩ := DataW.trod_int Tryz.underlying3 tpr
  obtain ⟨mho, yho, tho, who⟩ := open_part Tryz.underlying41 tod wod 7 _ rfl
  replace tho := trod_cut tho (o := 8) (k := 1) (by kernel_rfl) (by kernel_rfl)
  obtain ⟨xho, eho, _, fho⟩ := DataW.trod_int Tryz.underlying3 tho
  obtain ⟨mno, yno, tno, wno⟩ := open_part Tryz.underlying41 tod wod 8 _ rfl
  replace tno := trod_cut tno (o := 9) (k := 1) (by kernel_rfl) (by kernel_rfl)
  obtain ⟨xno, eno, _, fno⟩ := DataW.trod_string Tryz.underlying9 tno
  obtain ⟨mnn, ynn, tnn, wnn⟩ := open_part Tryz.underlying44 ten wen 1 _ rfl
  replace tnn := trod_cut tnn (o := 10) (k := 1) (by kernel_rfl) (by kernel_rfl)
  obtain ⟨xnn, enn, _⟩ := DataW.trod_bool Tryz.underlying4 tnn
  obtain ⟨mdp, ydp, tdp, wdp⟩ := open_part Tryz.underlying44 ten wen 2 _ rfl
  replace tdp := trod_cut tdp (o := 11) (k := 1) (by kernel_rfl) (by kernel_rfl)
  obtain ⟨DA, Dn, Dc, xdp, edp, rD, cD, bD, oD⟩ := open_depsM tdp wdp
  refine ⟨⟨⟨xfr, xto, xkd, ⟨⟨xir, xii⟩, xbl, xst, xby, ⟨⟨xic, xis, xok, xac.data.toList, xpe.data.toList, xsu, xlg, xpr, xho, xno.data.toList⟩, xnn, xdp⟩⟩⟩, ⟨LA, Ln, Lc⟩, ⟨DA, Dn, Dc⟩⟩, ?_, ⟨⟨rL, cL⟩, rD, cD⟩, ⟨by dsimp only; omega, by dsimp only; omega, fok, fun l hl => (oL l hl).1⟩, ⟨in64_wf fsu, fun l hl => (oL l hl).2⟩, fac, fpe⟩
  apply List.ext_getElem?
  intro i
  match i with
  | 0 => exact one_at efr
  | 1 => exact one_at eto
  | 2 => exact one_at ekd
  | 3 => exact sub_at (one_at eir)
  | 4 => exact sub_at (one_at eii)
  | 5 => exact one_at ebl
  | 6 => exact one_at est
  | 7 => exact one_at eby
  | 8 => exact sub_at (sub_at (sub_at (one_at eic)))
  | 9 => exact sub_at (sub_at (sub_at (one_at eis)))
  | 10 => exact sub_at (sub_at (one_at eok))
  | 11 => exact sub_at (sub_at (one_at eac))
  | 12 => exact sub_at (sub_at (one_at epe))
  | 13 => exact sub_at (sub_at (one_at esu))
  | 14 => exact sub_at (sub_at (one_at elg))
  | 15 => exact sub_at (sub_at (one_at epr))
  | 16 => exact sub_at (sub_at (one_at eho))
  | 17 => exact sub_at (sub_at (one_at eno))
  | 18 => exact sub_at (one_at enn)
  | 19 => exact sub_at (one_at edp)
  | n + 20 => rw [List.getElem?_eq_none (by omega)] <;> rfl
set_option maxRecDepth 100000 in
theorem open_msgs {H : Type} {enc : TypeId × Value → H} {w : World} {held : Bool} {fuel : Nat} {cs : List Value} {x : DataW H × List MemPlace}
    (h : DataW.trod enc Tryz.prog w 0 (fun _ => true) held fuel 27 cs = some x) (hw : Wd Tryz.prog 27 x.1) :
    ∃ (A : Option Addr) (n c : Nat) (os : List Ms), cs = [.slice A n c] ∧ RdM w A n os ∧ n ≤ c ∧ n ≤ 140737488351232 ∧ (∀ o ∈ os, MsGood w o) := by
  obtain ⟨A, n, c, css, D, rfl, hc, hi⟩ := open_any Tryz.underlying27 (by kernel_rfl : Tryz.prog.cellsOf 46 = 20) (by omega) h hw
  have hch : ∀ i, i < n → ∃ o : Ms, css i = msC o ∧ MsGood w o := by
    intro i hin
    obtain ⟨hlen, hwd, m, pl, htr⟩ := hi i hin
    exact open_msg htr hwd hlen
  obtain ⟨os, hl, hz⟩ := list_choice _ n hch
  have e1 : (List.range n).flatMap css = mss os := by
    unfold mss
    rw [← hl, flat_range msC css os fun i e hie => (hz i e hie).1]
  rw [e1] at hc
  refine ⟨A, n, c, os, rfl, hc.1, hc.2.1, ?_, fun o ho => ?_⟩
  · have h4 := hc.2.2.2.1
    have h2 := hc.2.1
    have hb : 1 ≤ Tryz.prog.bytesOf 46 := by
      have : Tryz.prog.bytesOf 46 = 216 := by kernel_rfl
      omega
    have := Nat.mul_le_mul_left c hb
    omega
  · obtain ⟨i, hi1, hi2⟩ := List.getElem_of_mem ho
    exact (hz i o (by rw [List.getElem?_eq_getElem hi1, hi2])).2
end Go.Proofs.YtdekehhmjehicaaGreat
