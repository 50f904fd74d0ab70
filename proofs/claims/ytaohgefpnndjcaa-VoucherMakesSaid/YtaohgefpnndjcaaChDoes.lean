/-
  A step of a script, on a chart and on none; what charts are throughout.
-/
import Derived.Test.YtaohgefpnndjcaaChOpen
import Derived.Test.YtaohgefpnndjcaaChTot
namespace Go.Proofs.Ytaohgefpnndjcaa
set_option linter.unusedVariables false
open Go.RowKit
/-- what a chart is throughout -/
def OkC (C : List Ac) : Prop := (∀ a ∈ C, WfA a ∧ a.n.length ≤ 8) ∧ C.length ≤ 12
theorem OkC.wf {C : List Ac} (h : OkC C) : ∀ a ∈ C, WfA a := fun a ha => (h.1 a ha).1
theorem OkC.nm {C : List Ac} (h : OkC C) : ∀ a ∈ C, a.n.length ≤ 8 := fun a ha => (h.1 a ha).2
theorem OkC.nil : OkC [] := ⟨fun a h => (by cases h), (by simp)⟩
theorem actR_i64 (x : Int) : I64 (actR x).1 := by
  unfold actR
  cases h : inI x
  · unfold I64; simp
  · exact ⟨(inI_yes.1 h).1, (inI_yes.1 h).2⟩
theorem setC_mem {C : List Ac} {a x : Ac} (h : x ∈ setC C a) : x = a ∨ x ∈ C := by
  unfold setC at h
  obtain ⟨y, hy, rfl⟩ := List.mem_map.1 h
  split
  · exact .inl rfl
  · exact .inr hy
theorem insC_mem {a x : Ac} : ∀ {C : List Ac}, x ∈ insC a C → x = a ∨ x ∈ C
  | [], h => by simp [insC] at h; exact .inl h
  | y :: l, h => by
    unfold insC at h
    split at h
    · rcases List.mem_cons.1 h with h | h
      · exact .inl h
      · exact .inr h
    · rcases List.mem_cons.1 h with h | h
      · exact .inr (by rw [h]; exact List.mem_cons_self ..)
      · rcases insC_mem h with h | h
        · exact .inl h
        · exact .inr (List.mem_cons_of_mem _ h)
theorem insC_len (a : Ac) : ∀ C : List Ac, (insC a C).length = C.length + 1
  | [] => rfl
  | y :: l => by
    unfold insC
    split
    · rfl
    · rw [List.length_cons, insC_len a l, List.length_cons]
theorem name_len {l : List UInt8} (h : nameB l = true) : l.length ≤ 8 := by
  unfold nameB at h
  simp at h
  exact h.2
theorem turn_okc {C : List Ac} {s : List UInt8} {x : Int} {act : Act_} (h : OkC C) (ha : ∀ a ∈ C, WfA a → (act a).2 = 0 → 0 ≤ (act a).1.s → WfA (act a).1) (hn : ∀ a, (act a).1.n = a.n) : OkC (turnR C s x act).1 := by
  unfold turnR
  cases hg : getC C s with
  | none => exact h
  | some a =>
    dsimp only
    split
    · exact h
    · split
      · exact h
      · split
        · exact h
        · rename_i h1 h2 h3
          have hm := getC_mem hg
          refine ⟨fun y hy => ?_, by unfold setC; rw [List.length_map]; exact h.2⟩
          rcases setC_mem hy with rfl | hy
          · refine ⟨ha a hm (h.wf a hm) (by simpa using h1) (by omega), ?_⟩
            rw [hn]; exact h.nm a hm
          · exact h.1 y hy
theorem give_okc {C : List Ac} (h : OkC C) (s : List UInt8) (x : Int) : OkC (turnR C s x (giveA x)).1 :=
  turn_okc h (fun a _ hw _ _ => ⟨actR_i64 _, hw.2.1, hw.2.2.1, hw.2.2.2⟩) (fun _ => rfl)
theorem aside_okc {C : List Ac} (h : OkC C) (s : List UInt8) (x : Int) : OkC (turnR C s x (asideA x)).1 :=
  turn_okc h (fun a _ hw _ h0 => ⟨hw.1, actR_i64 _, hw.2.2.1, h0, hw.2.2.2.2⟩) (fun _ => rfl)
theorem open_okc {C : List Ac} (h : OkC C) (s : List UInt8) (x : Int) (hx : I64 x) : OkC (openR C s x).1 := by
  unfold openR
  split
  · exact h
  · split
    · exact h
    · split
      · exact h
      · rename_i h1 h2 h3
        have hn : nameB s = true := by
          cases hh : nameB s with
          | true => rfl
          | false => exact absurd (.inl hh) h1
        have hx0 : ¬ x < 0 := fun hh => h1 (.inr hh)
        refine ⟨fun y hy => ?_, by have := h.2; rw [insC_len]; omega⟩
        rcases insC_mem hy with rfl | hy
        · exact ⟨⟨by unfold I64; simp, by unfold I64; simp, hx, by simp, by simpa using hx0⟩, name_len hn⟩
        · exact h.1 y hy
def kindN (k : Int) : Nat := ((IntKind.u64.wrap k) % 4).toNat
def stepR (C : List Ac) (k : Nat) (s : List UInt8) (x : Int) : List Ac × Int :=
  if k = 0 then openR C s x else if k = 1 then turnR C s x (giveA x) else if k = 2 then turnR C s x (asideA x) else (C, (getV C s).2)
theorem step_okc {C : List Ac} (h : OkC C) (k : Nat) (s : List UInt8) (x : Int) (hx : I64 x) : OkC (stepR C k s x).1 := by
  unfold stepR
  split
  · exact open_okc h s x hx
  · split
    · exact give_okc h s x
    · split
      · exact aside_okc h s x
      · exact h
theorem kind_num (k : Int) : ∃ n : Nat, n < 4 ∧ kindN k = n ∧ (IntKind.u64.wrap k).tmod 4 = (n : Int) := by
  have hx := (wrap_u64_lt k).1
  unfold kindN
  generalize IntKind.u64.wrap k = q at hx
  have e : q.tmod 4 = q % 4 := Int.tmod_eq_emod_of_nonneg hx
  exact ⟨(q % 4).toNat, by omega, rfl, by omega⟩
theorem open_ok (w : World) (p b : Nat) (C : List Ac) (s : ByteArray) (x : Int) (hc : ChAt w p b C) (hs : s.size ≤ maxLen) (ho : OkC C) :
    Calls Try.prog 26 #[.pointer (some ⟨p, 0, none⟩), .string s, .int .i64 x] w (ChPost w p b (openR C s.data.toList x)) := by
  by_cases h : nameB s.data.toList = false ∨ x < 0
  · exact open_arg w p b C s x hc h
  · refine open_go w p b C s x hc hs (by have := ho.2; unfold maxLen; omega) ?_ (fun hx => h (.inr hx))
    cases hn : nameB s.data.toList with
    | true => rfl
    | false => exact absurd (.inl hn) h
theorem room_of {C : List Ac} (h : OkC C) : C.length + 1 < maxLen := by have := h.2; unfold maxLen; omega
end Go.Proofs.Ytaohgefpnndjcaa
