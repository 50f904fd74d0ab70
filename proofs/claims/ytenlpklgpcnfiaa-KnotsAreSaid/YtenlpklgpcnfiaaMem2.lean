/-
  More words for memory: a new block that reads as a list; a slice expression of bytes; strings of bytes; where rows lie apart. No condition.
-/
import Derived.Test.YtenlpklgpcnfiaaMem
import Derived.Lib.SlBytesConst
import Derived.Lib.MinMax
namespace Go.Proofs.Ytenlpklgpcnfiaa
set_option linter.unusedVariables false
open Go.RowKit
theorem rdn (w : World) (e : TypeId) (size n g : Nat) (cs : Array Value) (fr : Nat × Nat) (hg : g = w.heap.size) (hs : cs.size = n * size) : Rd (w.alloc (.cells cs e fr)) size (some ⟨g, 0, none⟩) n cs.toList := by
  subst hg
  refine ⟨by simpa using hs, fun _ => ⟨_, rfl, fun j u hu => ?_⟩⟩
  rw [add_lit, World.cell?_alloc_mark]
  simpa using hu
theorem rdb_take {A : Option Addr} {w : World} {n : Nat} {l : List UInt8} (h : RdB w A n l) {k : Nat} (hk : k ≤ n) : RdB w A k (l.take k) := by
  have := Rd.take_ h hk
  rwa [Nat.mul_one, ← bvs_take] at this
theorem rdb_drop {A : Option Addr} {w : World} {n c : Nat} {l : List UInt8} (h : RdB w A n l) {k : Nat} (hk : k ≤ n) (hc : n ≤ c) : RdB w (if c = k then A else A.map (·.add k)) (n - k) (l.drop k) := by
  have := Rd.drop_ h hk hc
  rwa [Nat.mul_one, ← bvs_drop] at this
theorem wrap_u64_lt (n : Int) : 0 ≤ IntKind.u64.wrap n ∧ IntKind.u64.wrap n < 18446744073709551616 := by
  rw [IntKind.wrap_u64]; omega
/-- 'int(uint(x) % uint(m))'. -/
theorem umod (x m : Int) (h0 : 0 < m) (h1 : m ≤ 4611686018427387904) : ∃ k : Nat, (k : Int) < m ∧ wrap64 ((IntKind.u64.wrap x).tmod m) = (k : Int) := by
  have hx := (wrap_u64_lt x).1
  generalize IntKind.u64.wrap x = q at hx
  have e : q.tmod m = q % m := Int.tmod_eq_emod_of_nonneg hx
  have l1 := Int.emod_nonneg q (b := m) (by omega)
  have l2 := Int.emod_lt_of_pos q h0
  refine ⟨(q % m).toNat, by omega, ?_⟩
  rw [e, IntWalk.wrap64_in _ ⟨by omega, by omega⟩]
  omega
theorem Ow.ne_ow {w : World} {e e' : TypeId} {s s' n n' c c' : Nat} {A A' : Option Addr} {xs xs' : List Value} (h : Ow w e s A n c xs) (h' : Ow w e' s' A' n' c' xs') (hne : e ≠ e') : ∀ k, fp A k → ¬ fp A' k := by
  rintro k ⟨a, ha, rfl⟩ ⟨b, hb, hab⟩
  rcases h.2.2.2 with ⟨h4, _⟩ | ⟨g, cur, h4, hg, _⟩
  · rw [h4] at ha; cases ha
  · rw [h4] at ha; cases ha
    rcases h'.2.2.2 with ⟨h4, _⟩ | ⟨g', cur', h4, hg', _⟩
    · rw [h4] at hb; cases hb
    · rw [h4] at hb; cases hb
      simp only at hab
      subst hab
      exact hg.ne_ hg' hne rfl
theorem Fresh.apart {w : World} {A : Option Addr} (h : Fresh w A) {F : Nat → Prop} (hF : ∀ k, F k → k < w.heap.size) : ∀ k, fp A k → ¬ F k := by
  rintro k ⟨a, ha, rfl⟩ hf
  have := h a ha
  have := hF _ hf
  omega
theorem Fresh.later {w w1 : World} {A : Option Addr} (h : Fresh w1 A) (hs : w.heap.size ≤ w1.heap.size) : Fresh w A := fun a ha => Nat.le_trans hs (h a ha)

/- LISTS OF UNIFORM CELLS. -/
theorem flat_length {α : Type} (f : α → List Value) (size : Nat) (hf : ∀ e, (f e).length = size) (es : List α) : (es.flatMap f).length = es.length * size := by
  induction es with
  | nil => simp
  | cons e es ih => rw [List.flatMap_cons, List.length_append, ih, hf, List.length_cons, Nat.succ_mul]; omega
theorem flat_get {α : Type} (f : α → List Value) (size : Nat) (hf : ∀ e, (f e).length = size) : ∀ (es : List α) (j : Nat) (e : α), es[j]? = some e → ∀ i, i < size → (es.flatMap f)[j * size + i]? = (f e)[i]? := by
  intro es
  induction es with
  | nil => intro j e h; simp at h
  | cons x es ih =>
    intro j e h i hi
    cases j with
    | zero =>
      simp at h; subst h
      rw [List.flatMap_cons, List.getElem?_append_left (by rw [hf]; omega)]
      simp
    | succ j =>
      rw [List.flatMap_cons, List.getElem?_append_right (by rw [hf, Nat.succ_mul]; omega), hf]
      have e1 : (j + 1) * size + i - size = j * size + i := by rw [Nat.succ_mul]; omega
      rw [e1]
      exact ih j e (by simpa using h) i hi

/-- A slice's value. -/
structure SV where
  a : Option Addr
  n : Nat
  c : Nat
def SV.v (s : SV) : Value := .slice s.a s.n s.c
/-- A list of texts of bytes: their slices' values ss, what they hold ls. 'Bd': all lie below that block. -/
def Txts (w : World) (Bd : Nat) (ss : List SV) (ls : List (List UInt8)) : Prop :=
  ss.length = ls.length ∧ ∀ (i : Nat) (s : SV) (l : List UInt8), ss[i]? = some s → ls[i]? = some l → RdB w s.a s.n l ∧ s.n ≤ s.c ∧ s.c ≤ 140737488351232 ∧ (0 < s.n → ∀ k, fp s.a k → k < Bd)
section
variable {w w' : World} {Bd : Nat} {ss : List SV} {ls : List (List UInt8)}
theorem Txts.mod {F : Nat → Prop} (h : Txts w Bd ss ls) (hm : Mod F w w') (hF : ∀ k, F k → Bd ≤ k) : Txts w' Bd ss ls :=
  ⟨h.1, fun i s l hs hl => by
    obtain ⟨h1, h2, h3, h4⟩ := h.2 i s l hs hl
    exact ⟨h1.mod' hm fun h0 k hk hf => by have := hF k hf; have := h4 h0 k hk; omega, h2, h3, h4⟩⟩
theorem Txts.mod0 (h : Txts w Bd ss ls) (hm : Mod none_ w w') : Txts w' Bd ss ls := h.mod (F := none_) hm fun _ hf => False.elim hf
theorem Txts.more {B' : Nat} (h : Txts w Bd ss ls) (hB : Bd ≤ B') : Txts w B' ss ls :=
  ⟨h.1, fun i s l hs hl => by
    obtain ⟨h1, h2, h3, h4⟩ := h.2 i s l hs hl
    exact ⟨h1, h2, h3, fun h0 k hk => Nat.lt_of_lt_of_le (h4 h0 k hk) hB⟩⟩
theorem Txts.nil : Txts w Bd [] [] := ⟨rfl, fun i s l hs _ => by simp at hs⟩
theorem Txts.snoc (h : Txts w Bd ss ls) {s : SV} {l : List UInt8} (h1 : RdB w s.a s.n l) (h2 : s.n ≤ s.c) (h3 : s.c ≤ 140737488351232) (h4 : 0 < s.n → ∀ k, fp s.a k → k < Bd) : Txts w Bd (ss ++ [s]) (ls ++ [l]) := by
  refine ⟨by simp [h.1], fun i s' l' hs hl => ?_⟩
  by_cases hi : i < ss.length
  · rw [List.getElem?_append_left hi] at hs
    rw [List.getElem?_append_left (by rw [← h.1]; exact hi)] at hl
    exact h.2 i s' l' hs hl
  · rw [List.getElem?_append_right (by omega)] at hs
    rw [List.getElem?_append_right (by rw [← h.1]; omega), ← h.1] at hl
    have e : i - ss.length = 0 := by
      rcases Nat.lt_or_ge (i - ss.length) 1 with h5 | h5
      · omega
      · rw [List.getElem?_eq_none (by simpa using h5)] at hs; cases hs
    rw [e] at hs hl
    simp at hs hl
    subst hs hl
    exact ⟨h1, h2, h3, h4⟩
theorem Txts.take_ (h : Txts w Bd ss ls) (k : Nat) : Txts w Bd (ss.take k) (ls.take k) := by
  refine ⟨by rw [List.length_take, List.length_take, h.1], fun i s l hs hl => ?_⟩
  rw [List.getElem?_take] at hs hl
  by_cases hi : i < k
  · rw [if_pos hi] at hs hl
    exact h.2 i s l hs hl
  · rw [if_neg hi] at hs
    cases hs
end
end Go.Proofs.Ytenlpklgpcnfiaa
