/-
  Maps from int to bool that hold but true: sets of numbers.
-/
import Derived.Test.YtenlpklgpcnfiaaMapS
namespace Go.Proofs.Ytenlpklgpcnfiaa
set_option linter.unusedVariables false
open Go.RowKit
open Go.Maps (Keyed int_keyed)
def entI (x : Int) : Lit × DataW Value := (.int .i64 x, .held (.bool true))
def setD (L : List Int) : DataW Value := .map (L.map entI)
def insI (x : Int) : List Int → List Int
  | [] => [x]
  | y :: l => if x < y then x :: y :: l else y :: insI x l
def putI (x : Int) (L : List Int) : List Int := insI x (L.filter fun y => !(y == x))
def delI (x : Int) (L : List Int) : List Int := L.filter fun y => !(y == x)
/-- a set of numbers in block b -/
def MapI (w : World) (k : TypeId) (b : Nat) (L : List Int) : Prop := ∃ n, n < maxLen ∧ w.ownsMap Try.prog k VR b n (setD L)
theorem mem_insI {x y : Int} : ∀ {L : List Int}, y ∈ insI x L ↔ y = x ∨ y ∈ L
  | [] => by simp [insI]
  | z :: l => by
    unfold insI
    split
    · simp
    · simp only [List.mem_cons, mem_insI (L := l)]
      constructor
      · rintro (h | h | h)
        · exact .inr (.inl h)
        · exact .inl h
        · exact .inr (.inr h)
      · rintro (h | h | h)
        · exact .inr (.inl h)
        · exact .inl h
        · exact .inr (.inr h)
theorem mem_putI {x y : Int} {L : List Int} : y ∈ putI x L ↔ y = x ∨ y ∈ L := by
  unfold putI
  rw [mem_insI, List.mem_filter]
  by_cases e : y = x
  · simp [e]
  · simp [e]
theorem mem_delI {x y : Int} {L : List Int} : y ∈ delI x L ↔ y ∈ L ∧ y ≠ x := by
  unfold delI
  rw [List.mem_filter]
  simp
theorem insI_len (x : Int) : ∀ L : List Int, (insI x L).length = L.length + 1
  | [] => rfl
  | y :: l => by
    unfold insI
    split
    · rfl
    · simp [insI_len x l]
theorem putI_len (x : Int) (L : List Int) : (putI x L).length ≤ L.length + 1 := by
  unfold putI
  rw [insI_len]
  have := List.length_filter_le (fun y => !(y == x)) L
  omega
theorem same_int (a b : Int) : (Lit.int .i64 a).sameKey (.int .i64 b) = (a == b) := by
  show decide (IntKind.i64 = IntKind.i64 ∧ a = b) = (a == b)
  by_cases e : a = b <;> simp [e]
theorem put_setD (L : List Int) (x : Int) : (setD L).put (.int .i64 x) (.held (.bool true)) = setD (putI x L) := by
  have hf : (L.map entI).filter (fun p => !p.1.sameKey (.int .i64 x)) = (L.filter fun y => !(y == x)).map entI := by
    rw [List.filter_map]
    congr 1
    refine List.filter_congr fun y _ => ?_
    show (!(Lit.int .i64 y).sameKey (.int .i64 x)) = _
    rw [same_int]
  have hi : ∀ l : List Int, DataW.insert (Lit.int .i64 x, DataW.held (.bool true)) (l.map entI) = (insI x l).map entI := by
    intro l
    induction l with
    | nil => rfl
    | cons y l ih =>
      simp only [List.map_cons, DataW.insert, insI]
      have : (Lit.int .i64 x).before (entI y).1 = decide (x < y) := rfl
      rw [this, ih]
      by_cases e : x < y
      · simp [e]; rfl
      · simp [e]
  show DataW.map _ = DataW.map _
  rw [hf, hi]; rfl
theorem del_setD (L : List Int) (x : Int) : (setD L).del (.int .i64 x) = setD (delI x L) := by
  show DataW.map _ = DataW.map _
  congr 1
  unfold delI
  rw [List.filter_map]
  congr 1
  refine List.filter_congr fun y _ => ?_
  show (!(Lit.int .i64 y).sameKey (.int .i64 x)) = _
  rw [same_int]
theorem size_setD (L : List Int) : Maps.size (setD L) = L.length := by simp [setD, Maps.size]
section
variable {F : Nat → Prop} {w w' : World} {k : TypeId} {b : Nat} {L : List Int}
theorem MapI.lt (h : MapI w k b L) : b < w.heap.size := by obtain ⟨n, _, h⟩ := h; exact h.lt
theorem MapI.mod (h : MapI w k b L) (hm : Mod F w w') (hb : ¬ F b) : MapI w' k b L := by
  have hlt := h.lt
  obtain ⟨n, hn, es, clock, h1, h2, h3, h4⟩ := h
  exact ⟨n, hn, es, clock, (hm.block b hlt hb).trans h1, h2, h3, h4⟩
theorem MapI.made (w : World) (k : TypeId) : MapI (w.alloc (.map #[] 0)) k w.heap.size [] := ⟨0, by decide, World.ownsMap_made _ _ _ _⟩
theorem MapI.tight (h : MapI w k b L) : w.ownsMap Try.prog k VR b L.length (setD L) := by
  obtain ⟨n, hn, es, clock, h1, h2, h3, h4⟩ := h
  refine ⟨es, clock, h1, h2, ?_, h4⟩
  have := congrArg Maps.size h4
  rw [size_setD] at this
  rw [this]; simp [Maps.size, length_sorted]
end
section
variable (w : World) {ops : Array Oper} {rest : List Oper} {o : Oper} {a : Act} {Q : Exit → Act → World → Prop}
theorem mapI_store (hg : o.guard = none) (m x v : Operand) (t : TypeId) (hop : o.op = Op.mapUpdate t m x v) (k e : TypeId) (ht : Try.prog.underlying t = some (.map k e)) (hk : Try.prog.underlying k = some (.int .i64))
    (b : Nat) (L : List Int) (hm : a.eval m = .map (some b)) (h : MapI w k b L) (hroom : L.length + 1 < maxLen) (s : Int) (hs : (Lit.int .i64 s).wf = true) (hx : a.eval x = .int .i64 s) (hv : a.eval v = .bool true)
    (hK : ∀ w', MapI w' k b (putI s L) → Mod (· = b) w w' → w'.heap.size = w.heap.size → wpList Try.prog ops Q rest (a.put o.dst undef) w') :
    wpList Try.prog ops Q (o :: rest) a w := by
  refine wpList_mapUpdate_in w hg m x v t hop k e (int_keyed hk) ht VR b _ (setD L) hm h.tight (by omega) _ (.bool true) (.int .i64 s) hx hv (Go.Maps.keyOf_int_mk hk hs) (.held (.bool true)) [] rfl ?_
  intro w' h1 h2
  rw [put_setD] at h1
  refine hK w' ⟨_, hroom, h1⟩ ((Mod.of_grown h2.grown).mono fun i hi => by cases hi; rfl) ?_
  obtain ⟨es, c, es', c', _, rfl⟩ := h2
  simp [ChangeMaps.setBlock]
theorem mapI_del (hg : o.guard = none) (m x : Operand) (t k : TypeId) (hop : o.op = Op.call { callee := Callee.builtin Builtin.delete, args := #[m, x], argTypes := #[t, k] }) (e : TypeId) (ht : Try.prog.underlying t = some (.map k e)) (hk : Try.prog.underlying k = some (.int .i64))
    (b : Nat) (L : List Int) (hm : a.eval m = .map (some b)) (h : MapI w k b L) (s : Int) (hs : (Lit.int .i64 s).wf = true) (hx : a.eval x = .int .i64 s)
    (hK : ∀ w', MapI w' k b (delI s L) → Mod (· = b) w w' → w'.heap.size = w.heap.size → wpList Try.prog ops Q rest (a.put o.dst (.tuple #[])) w') :
    wpList Try.prog ops Q (o :: rest) a w := by
  obtain ⟨n, hn, hown⟩ := h
  refine wpList_delete_own w hg m x t k hop e (int_keyed hk) ht VR b n (setD L) hm hown _ (.int .i64 s) hx (Go.Maps.keyOf_int_mk hk hs) ?_
  intro w' h1 h2
  rw [del_setD] at h1
  refine hK w' ⟨n, hn, h1⟩ ((Mod.of_grown h2.grown).mono fun i hi => by cases hi; rfl) ?_
  obtain ⟨es, c, es', c', _, rfl⟩ := h2
  simp [ChangeMaps.setBlock]
theorem mapI_len (hg : o.guard = none) (m : Operand) (t : TypeId) (hop : o.op = Op.call { callee := Callee.builtin Builtin.len, args := #[m], argTypes := #[t] }) (k e : TypeId) (ht : Try.prog.underlying t = some (.map k e))
    (b : Nat) (L : List Int) (hm : a.eval m = .map (some b)) (h : MapI w k b L) (hK : wpList Try.prog ops Q rest (a.put o.dst (.int .i64 L.length)) w) : wpList Try.prog ops Q (o :: rest) a w := by
  refine wpList_len_own w hg m t hop k e ht VR b _ (setD L) hm h.tight ?_
  rw [size_setD]; exact hK
end
end Go.Proofs.Ytenlpklgpcnfiaa
