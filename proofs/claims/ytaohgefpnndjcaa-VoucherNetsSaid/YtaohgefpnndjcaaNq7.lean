import Derived.Test.YtaohgefpnndjcaaNq5
import Derived.Test.YtaohgefpnndjcaaNq6
/-
  A step of a script, on a chart and on none; what charts are throughout.
-/
namespace Go.Proofs.Ytaohgefpnndjcaa
set_option linter.unusedVariables false
open Go.RowKit
/-- what a chart is throughout -/
def OkC (C : List Ac) : Prop := (∀ a ∈ C, WfA a ∧ a.n.length ≤ 8) ∧ C.length ≤ 12
theorem OkC.wf {C : List Ac} (h : OkC C) : ∀ a ∈ C, WfA a := fun a ha => (h.1 a ha).1
theorem OkC.nm {C : List Ac} (h : OkC C) : ∀ a ∈ C, a.n.length ≤ 8 := fun a ha => (h.1 a ha).2
theorem OkC.nil : OkC [] := ⟨fun a h => (by cases h), (by simp)⟩
theorem actR_i64 (x : Int) : I64 (actR x).1 := by
  unfold actR
  cases h : inI x
  · unfold I64; simp
  · exact ⟨(inI_yes.1 h).1, (inI_yes.1 h).2⟩
theorem setC_mem {C : List Ac} {a x : Ac} (h : x ∈ setC C a) : x = a ∨ x ∈ C := by
  unfold setC at h
  obtain ⟨y, hy, rfl⟩ := List.mem_map.1 h
  split
  · exact .inl rfl
  · exact .inr hy
theorem insC_mem {a x : Ac} : ∀ {C : List Ac}, x ∈ insC a C → x = a ∨ x ∈ C
  | [], h => by simp [insC] at h; exact .inl h
  | y :: l, h => by
    unfold insC at h
    split at h
    · rcases List.mem_cons.1 h with h | h
      · exact .inl h
      · exact .inr h
    · rcases List.mem_cons.1 h with h | h
      · exact .inr (by rw [h]; exact List.mem_cons_self ..)
      · rcases insC_mem h with h | h
        · exact .inl h
        · exact .inr (List.mem_cons_of_mem _ h)
theorem insC_len (a : Ac) : ∀ C : List Ac, (insC a C).length = C.length + 1
  | [] => rfl
  | y :: l => by
    unfold insC
    split
    · rfl
    · rw [List.length_cons, insC_len a l, List.length_cons]
theorem name_len {l : List UInt8} (h : nameB l = true) : l.length ≤ 8 := by
  unfold nameB at h
  simp at h
  exact h.2
theorem turn_okc {C : List Ac} {s : List UInt8} {x : Int} {act : Act_} (h : OkC C) (ha : ∀ a ∈ C, WfA a → (act a).2 = 0 → 0 ≤ (act a).1.s → WfA (act a).1) (hn : ∀ a, (act a).1.n = a.n) : OkC (turnR C s x act).1 := by
  unfold turnR
  cases hg : getC C s with
  | none => exact h
  | some a =>
    dsimp only
    split
    · exact h
    · split
      · exact h
      · split
        · exact h
        · rename_i h1 h2 h3
          have hm := getC_mem hg
          refine ⟨fun y hy => ?_, by unfold setC; rw [List.length_map]; exact h.2⟩
          rcases setC_mem hy with rfl | hy
          · refine ⟨ha a hm (h.wf a hm) (by simpa using h1) (by omega), ?_⟩
            rw [hn]; exact h.nm a hm
          · exact h.1 y hy
theorem give_okc {C : List Ac} (h : OkC C) (s : List UInt8) (x : Int) : OkC (turnR C s x (giveA x)).1 :=
  turn_okc h (fun a _ hw _ _ => ⟨actR_i64 _, hw.2.1, hw.2.2.1, hw.2.2.2⟩) (fun _ => rfl)
theorem aside_okc {C : List Ac} (h : OkC C) (s : List UInt8) (x : Int) : OkC (turnR C s x (asideA x)).1 :=
  turn_okc h (fun a _ hw _ h0 => ⟨hw.1, actR_i64 _, hw.2.2.1, h0, hw.2.2.2.2⟩) (fun _ => rfl)
theorem open_okc {C : List Ac} (h : OkC C) (s : List UInt8) (x : Int) (hx : I64 x) : OkC (openR C s x).1 := by
  unfold openR
  split
  · exact h
  · split
    · exact h
    · split
      · exact h
      · rename_i h1 h2 h3
        have hn : nameB s = true := by
          cases hh : nameB s with
          | true => rfl
          | false => exact absurd (.inl hh) h1
        have hx0 : ¬ x < 0 := fun hh => h1 (.inr hh)
        refine ⟨fun y hy => ?_, by have := h.2; rw [insC_len]; omega⟩
        rcases insC_mem hy with rfl | hy
        · exact ⟨⟨by unfold I64; simp, by unfold I64; simp, hx, by simp, by simpa using hx0⟩, name_len hn⟩
        · exact h.1 y hy
def kindN (k : Int) : Nat := ((IntKind.u64.wrap k) % 4).toNat
def stepR (C : List Ac) (k : Nat) (s : List UInt8) (x : Int) : List Ac × Int :=
  if k = 0 then openR C s x else if k = 1 then turnR C s x (giveA x) else if k = 2 then turnR C s x (asideA x) else (C, (getV C s).2)
theorem step_okc {C : List Ac} (h : OkC C) (k : Nat) (s : List UInt8) (x : Int) (hx : I64 x) : OkC (stepR C k s x).1 := by
  unfold stepR
  split
  · exact open_okc h s x hx
  · split
    · exact give_okc h s x
    · split
      · exact aside_okc h s x
      · exact h
theorem kind_num (k : Int) : ∃ n : Nat, n < 4 ∧ kindN k = n ∧ (IntKind.u64.wrap k).tmod 4 = (n : Int) := by
  have hx := (wrap_u64_lt k).1
  unfold kindN
  generalize IntKind.u64.wrap k = q at hx
  have e : q.tmod 4 = q % 4 := Int.tmod_eq_emod_of_nonneg hx
  exact ⟨(q % 4).toNat, by omega, rfl, by omega⟩
theorem open_ok (w : World) (p b : Nat) (C : List Ac) (s : ByteArray) (x : Int) (hc : ChAt w p b C) (hs : s.size ≤ maxLen) (ho : OkC C) :
    Calls Try.prog 26 #[.pointer (some ⟨p, 0, none⟩), .string s, .int .i64 x] w (ChPost w p b (openR C s.data.toList x)) := by
  by_cases h : nameB s.data.toList = false ∨ x < 0
  · exact open_arg w p b C s x hc h
  · refine open_go w p b C s x hc hs (by have := ho.2; unfold maxLen; omega) ?_ (fun hx => h (.inr hx))
    cases hn : nameB s.data.toList with
    | true => rfl
    | false => exact absurd (.inl hn) h
theorem room_of {C : List Ac} (h : OkC C) : C.length + 1 < maxLen := by have := h.2; unfold maxLen; omega
end Go.Proofs.Ytaohgefpnndjcaa
/-
  What is given, and given back, is as it was. Plain.
-/
namespace Go.Proofs.Ytaohgefpnndjcaa
set_option linter.unusedVariables false
open Go.RowKit
theorem uniq_n {C : List Ac} (h : SortedC C) : ∀ {a b : Ac}, a ∈ C → b ∈ C → a.n = b.n → a = b := by
  induction C with
  | nil => intro a b ha; cases ha
  | cons y l ih =>
    intro a b ha hb hn
    obtain ⟨h1, h2⟩ := List.pairwise_cons.1 h
    rcases List.mem_cons.1 ha with ha | ha <;> rcases List.mem_cons.1 hb with hb | hb
    · rw [ha, hb]
    · exact absurd (ha ▸ hn) (bb_ne (h1 b hb))
    · exact absurd (hb ▸ hn.symm) (bb_ne (h1 a ha))
    · exact ih h2 ha hb hn
theorem setC_self {C : List Ac} (h : SortedC C) {a : Ac} (ha : a ∈ C) : setC C a = C := by
  unfold setC
  conv => rhs; rw [← List.map_id C]
  refine List.map_congr_left fun y hy => ?_
  by_cases e : y.n = a.n
  · rw [uniq_n h hy ha e]; simp
  · simp [e]
theorem setC_setC (C : List Ac) (a b : Ac) (h : a.n = b.n) : setC (setC C a) b = setC C b := by
  unfold setC
  rw [List.map_map]
  refine List.map_congr_left fun y hy => ?_
  simp only [Function.comp]
  by_cases e : y.n = a.n
  · simp [e, h]
  · have : ¬ y.n = b.n := by rw [← h]; exact e
    simp [e, this]
theorem getC_setC {C : List Ac} {a b : Ac} {s : List UInt8} (h : getC C s = some a) (hn : b.n = s) : getC (setC C b) s = some b := by
  induction C with
  | nil => simp [getC] at h
  | cons y l ih =>
    by_cases e : y.n = s
    · have : setC (y :: l) b = b :: setC l b := by
        show (if y.n == b.n then b else y) :: setC l b = _
        rw [if_pos (by simp [e, hn])]
      rw [this]
      unfold getC
      rw [List.find?_cons_of_pos (by simp [hn])]
    · have : setC (y :: l) b = y :: setC l b := by
        show (if y.n == b.n then b else y) :: setC l b = _
        rw [if_neg (by simp [e, hn])]
      rw [this]
      unfold getC at h ⊢
      rw [List.find?_cons_of_neg (by simpa using e)] at h ⊢
      exact ih h
theorem turn_zero {C : List Ac} {s : List UInt8} {x : Int} {act : Act_} (h : (turnR C s x act).2 = 0) : ∃ a, getC C s = some a ∧ (act a).2 = 0 ∧ ¬ (0 < x ∧ freeB a x = false) ∧ ¬ (act a).1.s < 0 ∧ turnR C s x act = (setC C (act a).1, 0) := by
  unfold turnR at h ⊢
  cases hg : getC C s with
  | none => rw [hg] at h; exact absurd h (by simp)
  | some a =>
    rw [hg] at h
    dsimp only at h ⊢
    by_cases h1 : (act a).2 ≠ 0
    · rw [if_pos h1] at h; exact absurd h h1
    · rw [if_neg h1] at h
      by_cases h2 : 0 < x ∧ freeB a x = false
      · rw [if_pos h2] at h; exact absurd h (by simp)
      · rw [if_neg h2] at h
        by_cases h3 : (act a).1.s < 0
        · rw [if_pos h3] at h; exact absurd h (by simp)
        · refine ⟨a, rfl, by simpa using h1, h2, h3, ?_⟩
          rw [if_neg h1, if_neg h2, if_neg h3]
theorem turn_same {C : List Ac} {s : List UInt8} {x : Int} {act : Act_} (h : (turnR C s x act).2 ≠ 0) : (turnR C s x act).1 = C := by
  unfold turnR at h ⊢
  cases hg : getC C s with
  | none => rfl
  | some a =>
    rw [hg] at h
    dsimp only at h ⊢
    split
    · rfl
    · split
      · rfl
      · split
        · rfl
        · rename_i h1 h2 h3
          rw [if_neg h1, if_neg h2, if_neg h3] at h; exact absurd rfl h
theorem actR_zero {x : Int} (h : (actR x).2 = 0) : inI x = true ∧ (actR x).1 = x := by
  unfold actR at h ⊢
  cases hi : inI x
  · rw [hi] at h; simp at h
  · exact ⟨rfl, rfl⟩
theorem inI_of {x : Int} (h : I64 x) : inI x = true := inI_yes.2 ⟨h.1, h.2⟩
/-- given, and given back -/
theorem give_back {C : List Ac} {s : List UInt8} {x : Int} (hs : SortedC C) (ho : OkC C) (hx : 0 ≤ x) (h : (turnR C s x (giveA x)).2 = 0) :
    ∃ a, getC C s = some a ∧ I64 (a.h - x) ∧ getC (turnR C s x (giveA x)).1 s = some { a with h := a.h - x } ∧ turnR (turnR C s x (giveA x)).1 s (-x) (giveA (-x)) = (C, 0) := by
  obtain ⟨a, hg, h1, h2, h3, h4⟩ := turn_zero h
  obtain ⟨h5, h6⟩ := actR_zero h1
  have hn := getC_name hg
  have hm := getC_mem hg
  have hw := ho.wf a hm
  have e1 : (giveA x a).1 = { a with h := a.h - x } := by unfold giveA; rw [h6]
  rw [h4, e1]
  have hg2 : getC (setC C { a with h := a.h - x }) s = some { a with h := a.h - x } := getC_setC hg hn
  refine ⟨a, hg, ⟨(inI_yes.1 h5).1, (inI_yes.1 h5).2⟩, hg2, ?_⟩
  unfold turnR
  rw [hg2]
  have e2 : giveA (-x) { a with h := a.h - x } = (a, 0) := by
    unfold giveA
    dsimp only
    rw [show a.h - x - -x = a.h by omega, act_yes (inI_of hw.1)]
  dsimp only
  rw [e2]
  dsimp only
  rw [if_neg (by simp), if_neg (by omega), if_neg (by have := hw.2.2.2.1; omega), setC_setC C _ a (by rfl), setC_self hs hm]
/-- set aside, and given back -/
theorem aside_back {C : List Ac} {s : List UInt8} {x : Int} (hs : SortedC C) (ho : OkC C) (hx : 0 ≤ x) (h : (turnR C s x (asideA x)).2 = 0) :
    turnR (turnR C s x (asideA x)).1 s (-x) (asideA (-x)) = (C, 0) := by
  obtain ⟨a, hg, h1, h2, h3, h4⟩ := turn_zero h
  obtain ⟨h5, h6⟩ := actR_zero h1
  have hn := getC_name hg
  have hm := getC_mem hg
  have hw := ho.wf a hm
  have e1 : (asideA x a).1 = { a with s := a.s + x } := by unfold asideA; rw [h6]
  rw [h4, e1]
  have hg2 : getC (setC C { a with s := a.s + x }) s = some { a with s := a.s + x } := getC_setC hg hn
  unfold turnR
  rw [hg2]
  have e2 : asideA (-x) { a with s := a.s + x } = (a, 0) := by
    unfold asideA
    dsimp only
    rw [show a.s + x + -x = a.s by omega, act_yes (inI_of hw.2.1)]
  dsimp only
  rw [e2]
  dsimp only
  rw [if_neg (by simp), if_neg (by omega), if_neg (by have := hw.2.2.2.1; omega), setC_setC C _ a (by rfl), setC_self hs hm]
end Go.Proofs.Ytaohgefpnndjcaa
/-
  What is done with one account changes no other one. Plain.
-/
namespace Go.Proofs.Ytaohgefpnndjcaa
set_option linter.unusedVariables false
open Go.RowKit
theorem get_setC_other {a : Ac} {n : List UInt8} (h : a.n ≠ n) : ∀ C : List Ac, getC (setC C a) n = getC C n
  | [] => rfl
  | y :: l => by
    have ih := get_setC_other h l
    have e : setC (y :: l) a = (if y.n == a.n then a else y) :: setC l a := rfl
    rw [e]
    unfold getC at ih ⊢
    by_cases h1 : y.n = a.n
    · rw [if_pos (by simpa using h1), List.find?_cons_of_neg (by simpa using h), List.find?_cons_of_neg (by rw [h1]; simpa using h)]
      exact ih
    · rw [if_neg (by simpa using h1)]
      by_cases h2 : y.n = n
      · rw [List.find?_cons_of_pos (by simpa using h2), List.find?_cons_of_pos (by simpa using h2)]
      · rw [List.find?_cons_of_neg (by simpa using h2), List.find?_cons_of_neg (by simpa using h2)]
        exact ih
theorem get_insC_other {a : Ac} {n : List UInt8} (h : a.n ≠ n) : ∀ C : List Ac, getC (insC a C) n = getC C n
  | [] => by unfold insC getC; rw [List.find?_cons_of_neg (by simpa using h)]
  | y :: l => by
    have ih := get_insC_other h l
    unfold insC
    split
    · unfold getC
      rw [List.find?_cons_of_neg (by simpa using h)]
    · unfold getC at ih ⊢
      by_cases h2 : y.n = n
      · rw [List.find?_cons_of_pos (by simpa using h2), List.find?_cons_of_pos (by simpa using h2)]
      · rw [List.find?_cons_of_neg (by simpa using h2), List.find?_cons_of_neg (by simpa using h2)]
        exact ih
theorem get_insC {a : Ac} : ∀ {C : List Ac}, getC C a.n = none → getC (insC a C) a.n = some a
  | [], _ => by unfold insC getC; rw [List.find?_cons_of_pos (by simp)]
  | y :: l, h => by
    unfold insC
    split
    · unfold getC
      rw [List.find?_cons_of_pos (by simp)]
    · have hy : ¬ y.n = a.n := by
        intro e
        unfold getC at h
        rw [List.find?_cons_of_pos (by simpa using e)] at h; cases h
      have hl : getC l a.n = none := by
        unfold getC at h ⊢
        rwa [List.find?_cons_of_neg (by simpa using hy)] at h
      have ih := get_insC hl
      unfold getC at ih ⊢
      rw [List.find?_cons_of_neg (by simpa using hy)]
      exact ih
theorem turn_other {C : List Ac} {s n : List UInt8} {x : Int} {act : Act_} (hn : ∀ a, (act a).1.n = a.n) (h : s ≠ n) : getC (turnR C s x act).1 n = getC C n := by
  unfold turnR
  cases hg : getC C s with
  | none => rfl
  | some a =>
    dsimp only
    split
    · rfl
    · split
      · rfl
      · split
        · rfl
        · exact get_setC_other (by rw [hn, getC_name hg]; exact h) C
theorem step_other {C : List Ac} {k : Nat} {s n : List UInt8} {x : Int} (h : s ≠ n) : getC (stepR C k s x).1 n = getC C n := by
  unfold stepR
  split
  · unfold openR
    split
    · rfl
    · split
      · rfl
      · split
        · rfl
        · exact get_insC_other h C
  · split
    · exact turn_other (fun _ => rfl) h
    · split
      · exact turn_other (fun _ => rfl) h
      · rfl
theorem turn_agree {C D : List Ac} {s : List UInt8} {x : Int} {act : Act_} (hn : ∀ a, (act a).1.n = a.n) (h : getC C s = getC D s) :
    (turnR C s x act).2 = (turnR D s x act).2 ∧ getC (turnR C s x act).1 s = getC (turnR D s x act).1 s := by
  unfold turnR
  rw [← h]
  cases hg : getC C s with
  | none => exact ⟨rfl, by rw [hg, ← h, hg]⟩
  | some a =>
    dsimp only
    have hg2 : getC D s = some a := by rw [← h, hg]
    split
    · exact ⟨rfl, by rw [hg, hg2]⟩
    · split
      · exact ⟨rfl, by rw [hg, hg2]⟩
      · split
        · exact ⟨rfl, by rw [hg, hg2]⟩
        · have e : (act a).1.n = s := by rw [hn, getC_name hg]
          exact ⟨rfl, by rw [getC_setC hg e, getC_setC hg2 e]⟩
theorem step_agree {C D : List Ac} {k : Nat} {s : List UInt8} {x : Int} (h : getC C s = getC D s) (h5 : (stepR C k s x).2 ≠ 5) (hD : D.length ≤ 1) :
    (stepR C k s x).2 = (stepR D k s x).2 ∧ getC (stepR C k s x).1 s = getC (stepR D k s x).1 s := by
  unfold stepR at h5 ⊢
  by_cases k0 : k = 0
  · rw [if_pos k0] at h5 ⊢
    rw [if_pos k0]
    unfold openR at h5 ⊢
    by_cases c1 : nameB s = false ∨ x < 0
    · rw [if_pos c1, if_pos c1]; exact ⟨rfl, h⟩
    · rw [if_neg c1] at h5 ⊢
      rw [if_neg c1]
      rw [← h]
      by_cases c2 : (getC C s).isSome = true
      · rw [if_pos c2, if_pos c2]; exact ⟨rfl, h⟩
      · rw [if_neg c2] at h5 ⊢
        rw [if_neg c2]
        by_cases c3 : C.length = 12
        · rw [if_pos c3] at h5; exact absurd rfl h5
        · rw [if_neg c3, if_neg (by omega)]
          have hg : getC C s = none := by
            cases hh : getC C s with
            | none => rfl
            | some a => rw [hh] at c2; exact absurd rfl c2
          refine ⟨rfl, ?_⟩
          have e1 := get_insC (a := ⟨s, 0, 0, x⟩) (C := C) hg
          have e2 := get_insC (a := ⟨s, 0, 0, x⟩) (C := D) (by rw [← h]; exact hg)
          exact e1.trans e2.symm
  · rw [if_neg k0] at h5 ⊢
    rw [if_neg k0]
    by_cases k1 : k = 1
    · rw [if_pos k1, if_pos k1]; exact turn_agree (fun _ => rfl) h
    · rw [if_neg k1, if_neg k1]
      by_cases k2 : k = 2
      · rw [if_pos k2, if_pos k2]; exact turn_agree (fun _ => rfl) h
      · rw [if_neg k2, if_neg k2]
        exact ⟨by unfold getV; rw [h], h⟩
theorem turn_names {C : List Ac} {s m : List UInt8} {x : Int} {act : Act_} (hn : ∀ a, (act a).1.n = a.n) (h : ∀ a ∈ C, a.n = m) : ∀ a ∈ (turnR C s x act).1, a.n = m := by
  unfold turnR
  cases hg : getC C s with
  | none => exact h
  | some a =>
    dsimp only
    split
    · exact h
    · split
      · exact h
      · split
        · exact h
        · intro y hy
          rcases setC_mem hy with rfl | hy
          · rw [hn]; exact h a (getC_mem hg)
          · exact h y hy
theorem step_names {C : List Ac} {k : Nat} {s : List UInt8} {x : Int} (h : ∀ a ∈ C, a.n = s) : ∀ a ∈ (stepR C k s x).1, a.n = s := by
  unfold stepR
  split
  · unfold openR
    split
    · exact h
    · split
      · exact h
      · split
        · exact h
        · intro y hy
          rcases insC_mem hy with rfl | hy
          · rfl
          · exact h y hy
  · split
    · exact turn_names (fun _ => rfl) h
    · split
      · exact turn_names (fun _ => rfl) h
      · exact h
theorem names_one {C : List Ac} {s : List UInt8} (hs : SortedC C) (h : ∀ a ∈ C, a.n = s) : C.length ≤ 1 := by
  match C, hs, h with
  | [], _, _ => simp
  | [_], _, _ => simp
  | x :: y :: l, hs, h =>
    exfalso
    obtain ⟨h1, _⟩ := List.pairwise_cons.1 hs
    have := bb_ne (h1 y (by simp))
    rw [h x (by simp), h y (by simp)] at this
    exact this rfl
/-- an account of a name that was not named stands as it stood -/
theorem apart_same {C : List Ac} {k : Nat} {s : List UInt8} {x : Int} {a b : Ac} (hC : SortedC C) (hC' : SortedC (stepR C k s x).1) (ha : a ∈ C) (hb : b ∈ (stepR C k s x).1) (hn : a.n = b.n) (hs : b.n ≠ s) : a = b := by
  obtain ⟨i, hi, rfl⟩ := List.getElem_of_mem ha
  obtain ⟨j, hj, rfl⟩ := List.getElem_of_mem hb
  have g1 := get_at_ hC (List.getElem?_eq_getElem hi)
  have g2 := get_at_ hC' (List.getElem?_eq_getElem hj)
  rw [step_other (fun e => hs e.symm), ← hn, g1] at g2
  exact Option.some.inj g2
end Go.Proofs.Ytaohgefpnndjcaa
/-
  Legs and what posting them is. Plain.
-/
namespace Go.Proofs.Ytaohgefpnndjcaa
set_option linter.unusedVariables false
open Go.RowKit
structure Lg where
  n : List UInt8
  x : Int
deriving DecidableEq
/-- what a leg of an argument is -/
def LgOk (l : Lg) : Prop := (txt l.n).size ≤ maxLen ∧ I64 l.x
def seenL (ls : List Lg) : List NameV := ls.foldl (fun L l => putL l.n (.bool true) L) []
def okLeg (l : Lg) : Bool := nameB l.n && !(l.x == 0)
def rightB (ls : List Lg) : Bool := ls.all okLeg && decide ((seenL ls).length = ls.length) && decide (2 ≤ ls.length) && decide (ls.length ≤ 6)
def weighB (ls : List Lg) : Bool := decide (isum (ls.map fun l => l.x) = 0)
def postR (C : List Ac) (l : Lg) : List Ac × Int :=
  match getC C l.n with
  | none => (C, 6)
  | some _ => if (actR (0 - l.x)).2 ≠ 0 then (C, (actR (0 - l.x)).2) else turnR C l.n (actR (0 - l.x)).1 (giveA (actR (0 - l.x)).1)
def allR (C : List Ac) : List Lg → List Ac × Int
  | [] => (C, 0)
  | l :: ls => if (postR C l).2 ≠ 0 then postR C l else allR (postR C l).1 ls
def checkR (C : List Ac) (ls : List Lg) : Int := if rightB ls = false then 1 else if weighB ls = false then 8 else (allR C ls).2
def makeR (C : List Ac) (ls : List Lg) : List Ac × Int := if checkR C ls ≠ 0 then (C, checkR C ls) else allR C ls
theorem post_okc {C : List Ac} (h : OkC C) (l : Lg) : OkC (postR C l).1 := by
  unfold postR
  split
  · exact h
  · split
    · exact h
    · exact give_okc h _ _
theorem all_okc : ∀ (ls : List Lg) {C : List Ac}, OkC C → OkC (allR C ls).1
  | [], _, h => h
  | l :: ls, C, h => by
    unfold allR
    split
    · exact post_okc h l
    · exact all_okc ls (post_okc h l)
theorem make_okc {C : List Ac} (h : OkC C) (ls : List Lg) : OkC (makeR C ls).1 := by
  unfold makeR
  split
  · exact h
  · exact all_okc ls h
theorem seenL_snoc (ls : List Lg) (l : Lg) : seenL (ls ++ [l]) = putL l.n (.bool true) (seenL ls) := by unfold seenL; rw [List.foldl_append]; rfl
theorem insL_len (x : NameV) : ∀ L : List NameV, (insL x L).length = L.length + 1
  | [] => rfl
  | y :: l => by
    unfold insL
    split
    · rfl
    · rw [List.length_cons, insL_len x l, List.length_cons]
theorem insL_mem {x y : NameV} : ∀ {L : List NameV}, y ∈ insL x L ↔ y = x ∨ y ∈ L
  | [] => by simp [insL]
  | z :: l => by
    unfold insL
    split
    · simp
    · simp only [List.mem_cons, insL_mem (L := l)]
      constructor
      · rintro (h | h | h)
        · exact .inr (.inl h)
        · exact .inl h
        · exact .inr (.inr h)
      · rintro (h | h | h)
        · exact .inr (.inl h)
        · exact .inl h
        · exact .inr (.inr h)
theorem snoc_ind {α : Type} {p : List α → Prop} (h0 : p []) (h1 : ∀ l a, p l → p (l ++ [a])) (l : List α) : p l := by
  have h : ∀ m : List α, p m.reverse := by
    intro m
    induction m with
    | nil => exact h0
    | cons a m ih => rw [List.reverse_cons]; exact h1 _ _ ih
  have := h l.reverse
  rwa [List.reverse_reverse] at this
theorem seenL_names (s : List UInt8) : ∀ ls : List Lg, (∃ v, (s, v) ∈ seenL ls) ↔ ∃ l ∈ ls, l.n = s := by
  refine snoc_ind ?_ (fun ls l ih => ?_)
  · simp [seenL]
  · rw [seenL_snoc]
    unfold putL
    constructor
    · rintro ⟨v, hv⟩
      rcases insL_mem.1 hv with h | h
      · injection h with h1 h2
        exact ⟨l, by simp, h1.symm⟩
      · obtain ⟨l', hl', hn⟩ := ih.1 ⟨v, (List.mem_filter.1 h).1⟩
        exact ⟨l', by simp [hl'], hn⟩
    · rintro ⟨l', hl', hn⟩
      by_cases e : l.n = s
      · exact ⟨.bool true, insL_mem.2 (.inl (by rw [e]))⟩
      · rw [List.mem_append] at hl'
        rcases hl' with hl' | hl'
        · obtain ⟨v, hv⟩ := ih.2 ⟨l', hl', hn⟩
          refine ⟨v, insL_mem.2 (.inr (List.mem_filter.2 ⟨hv, ?_⟩))⟩
          simp only [Bool.not_eq_true', beq_eq_false_iff_ne]
          exact fun h => e h.symm
        · simp at hl'; subst hl'; exact absurd hn e
theorem seenL_len : ∀ ls : List Lg, (seenL ls).length ≤ ls.length ∧ ((seenL ls).length = ls.length ↔ (ls.map fun l => l.n).Nodup) := by
  refine snoc_ind ?_ (fun ls l ih => ?_)
  · simp [seenL]
  · obtain ⟨h1, h2⟩ := ih
    rw [seenL_snoc]
    unfold putL
    rw [insL_len, List.length_append, List.length_singleton, List.map_append, List.nodup_append]
    have hf := List.length_filter_le (fun p : NameV => !(p.1 == l.n)) (seenL ls)
    refine ⟨by omega, ?_⟩
    have key : ((seenL ls).filter fun p => !(p.1 == l.n)).length = (seenL ls).length ↔ ¬ ∃ y ∈ ls, y.n = l.n := by
      rw [← seenL_names, List.length_filter_eq_length_iff]
      constructor
      · rintro h ⟨v, hv⟩
        have := h _ hv
        simp at this
      · intro h p hp
        simp only [Bool.not_eq_true', beq_eq_false_iff_ne]
        intro e
        exact h ⟨p.2, by rw [← e]; exact hp⟩
    constructor
    · intro h
      refine ⟨h2.1 (by omega), by simp, ?_⟩
      have := key.1 (by omega)
      intro a ha b hb hab
      obtain ⟨y, hy, rfl⟩ := List.mem_map.1 ha
      simp at hb
      exact this ⟨y, hy, by rw [hab, hb]⟩
    · rintro ⟨a, _, b⟩
      have e1 := h2.2 a
      have e2 := key.2 (by
        rintro ⟨y, hy, hn⟩
        exact b y.n (List.mem_map.2 ⟨y, hy, rfl⟩) l.n (by simp) hn)
      omega
end Go.Proofs.Ytaohgefpnndjcaa
