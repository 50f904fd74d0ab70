/-
  Maps keyed by texts, whatever their elements: a block that is a map reads as the list of its entries, in the order of their names. By the kit's laws on a map's block, read through a token that is the element itself.
-/
import Derived.Test.YtenlpklgpcnfiaaMem
import Derived.Test.YtenlpklgpcnfiaaRows
import Derived.Maps.OwnSet
import Derived.StringKeys
import Derived.Maps.RangeWalk
namespace Go.Proofs.Ytenlpklgpcnfiaa
set_option linter.unusedVariables false
open Go.RowKit
open Go.Maps (Keyed string_keyed)
abbrev NameV := List UInt8 × Value
def VR (v : Value) : Option (DataW Value × List MemPlace) := some (.held v, [])
def ent (p : NameV) : Lit × DataW Value := (.string p.1, .held p.2)
def mapD (L : List NameV) : DataW Value := .map (L.map ent)
def findL (L : List NameV) (s : List UInt8) : Option Value := (L.find? (fun p => p.1 == s)).map (·.2)
def insL (x : NameV) : List NameV → List NameV
  | [] => [x]
  | y :: l => if bytesBefore x.1 y.1 then x :: y :: l else y :: insL x l
def putL (s : List UInt8) (v : Value) (L : List NameV) : List NameV := insL (s, v) (L.filter fun p => !(p.1 == s))
def MapAt (w : World) (k : TypeId) (b : Nat) (L : List NameV) : Prop := ∃ n, n < maxLen ∧ w.ownsMap Try.prog k VR b n (mapD L)
theorem has_mapD (L : List NameV) (s : List UInt8) : Maps.has (mapD L) (.string s) = (findL L s).isSome := by
  unfold mapD Maps.has findL
  induction L with
  | nil => rfl
  | cons p L ih =>
    simp only [List.map_cons, List.any_cons, List.find?_cons]
    show (p.1 == s || _) = _
    by_cases h : (p.1 == s) = true
    · simp [h]
    · simp only [Bool.not_eq_true] at h
      rw [h]; simpa using ih
theorem atKey_mapD (L : List NameV) (s : List UInt8) (z : Value) : (mapD L).atKey (.string s) (.held z) = .held ((findL L s).getD z) := by
  unfold mapD DataW.atKey findL
  induction L with
  | nil => rfl
  | cons p L ih =>
    simp only [List.map_cons, List.find?_cons]
    have : (ent p).1.sameKey (.string s) = (p.1 == s) := rfl
    rw [this]
    by_cases h : (p.1 == s) = true
    · simp [h, ent]
    · simp only [Bool.not_eq_true] at h
      rw [h]; simpa using ih
theorem size_mapD (L : List NameV) : Maps.size (mapD L) = L.length := by simp [mapD, Maps.size]
theorem put_mapD (L : List NameV) (s : List UInt8) (v : Value) : (mapD L).put (.string s) (.held v) = mapD (putL s v L) := by
  have hf : (L.map ent).filter (fun p => !p.1.sameKey (.string s)) = (L.filter fun p => !(p.1 == s)).map ent := by
    rw [List.filter_map]; rfl
  have hi : ∀ l : List NameV, DataW.insert (Lit.string s, DataW.held v) (l.map ent) = (insL (s, v) l).map ent := by
    intro l
    induction l with
    | nil => rfl
    | cons y l ih =>
      simp only [List.map_cons, DataW.insert, insL]
      have : (Lit.string s).before (ent y).1 = bytesBefore s y.1 := rfl
      rw [this, ih]
      split <;> rfl
  show DataW.map _ = DataW.map _
  rw [hf, hi]; rfl
section
variable {F : Nat → Prop} {w w' : World} {k : TypeId} {b : Nat} {L : List NameV}
theorem MapAt.lt (h : MapAt w k b L) : b < w.heap.size := by obtain ⟨n, _, h⟩ := h; exact h.lt
theorem MapAt.mod (h : MapAt w k b L) (hm : Mod F w w') (hb : ¬ F b) : MapAt w' k b L := by
  have hlt := h.lt
  obtain ⟨n, hn, es, clock, h1, h2, h3, h4⟩ := h
  exact ⟨n, hn, es, clock, (hm.block b hlt hb).trans h1, h2, h3, h4⟩
theorem MapAt.alloc (h : MapAt w k b L) (o : Obj) : MapAt (w.alloc o) k b L := by obtain ⟨n, hn, h⟩ := h; exact ⟨n, hn, h.alloc o⟩
theorem MapAt.made (w : World) (k : TypeId) : MapAt (w.alloc (.map #[] 0)) k w.heap.size [] := ⟨0, by decide, World.ownsMap_made _ _ _ _⟩
theorem MapAt.tight (h : MapAt w k b L) : w.ownsMap Try.prog k VR b L.length (mapD L) := by
  obtain ⟨n, hn, es, clock, h1, h2, h3, h4⟩ := h
  refine ⟨es, clock, h1, h2, ?_, h4⟩
  have := congrArg Maps.size h4
  rw [size_mapD] at this
  rw [this]; simp [Maps.size, length_sorted]
end
section
variable (w : World) {ops : Array Oper} {rest : List Oper} {o : Oper} {a : Act} {Q : Exit → Act → World → Prop}
theorem map_look_ok (hg : o.guard = none) (m x : Operand) (t : TypeId) (hop : o.op = Op.lookup t m x true) (k e : TypeId) (ht : Try.prog.underlying t = some (.map k e)) (hk : Try.prog.underlying k = some .string)
    {z : Value} (hz : (zeroValue e).run Try.prog w = .ok z w) (b : Nat) (L : List NameV) (hm : a.eval m = .map (some b)) (h : MapAt w k b L) (s : ByteArray) (hs : s.size ≤ maxLen) (hx : a.eval x = .string s)
    (hK : wpList Try.prog ops Q rest (a.put o.dst (.tuple #[(findL L s.data.toList).getD z, .bool (findL L s.data.toList).isSome])) w) :
    wpList Try.prog ops Q (o :: rest) a w := by
  refine wpList_lookup_own_ok w hg m x t hop k e (string_keyed hk) ht VR hz (.held z) [] rfl b _ (mapD L) hm h.tight _ (.string s.data.toList) hx (Go.WideMaps.keyOf_string_mk hk hs) ?_
  intro v ps hv
  rw [atKey_mapD] at hv
  have : v = (findL L s.data.toList).getD z := by simp [VR] at hv; exact hv.1
  rw [this, has_mapD]
  exact hK
theorem map_look (hg : o.guard = none) (m x : Operand) (t : TypeId) (hop : o.op = Op.lookup t m x false) (k e : TypeId) (ht : Try.prog.underlying t = some (.map k e)) (hk : Try.prog.underlying k = some .string)
    {z : Value} (hz : (zeroValue e).run Try.prog w = .ok z w) (b : Nat) (L : List NameV) (hm : a.eval m = .map (some b)) (h : MapAt w k b L) (s : ByteArray) (hs : s.size ≤ maxLen) (hx : a.eval x = .string s)
    (hK : wpList Try.prog ops Q rest (a.put o.dst ((findL L s.data.toList).getD z)) w) :
    wpList Try.prog ops Q (o :: rest) a w := by
  refine wpList_plain hg fun K' hK' => ?_
  obtain ⟨v, ps, hrun, hv⟩ := h.tight.lookup (string_keyed hk) ht hz (zd := .held z) (zp := []) rfl (Go.WideMaps.keyOf_string_mk hk hs)
  rw [atKey_mapD] at hv
  have : v = (findL L s.data.toList).getD z := by simp [VR] at hv; exact hv.1
  rw [this] at hrun
  unfold Oper.wp
  simp [execOp, hop, hm, hx, hrun, Result.andThen]
  exact hK' _ _ hK
theorem map_store (hg : o.guard = none) (m x v : Operand) (t : TypeId) (hop : o.op = Op.mapUpdate t m x v) (k e : TypeId) (ht : Try.prog.underlying t = some (.map k e)) (hk : Try.prog.underlying k = some .string)
    (b : Nat) (L : List NameV) (hm : a.eval m = .map (some b)) (h : MapAt w k b L) (hroom : L.length + 1 < maxLen) (s : ByteArray) (hs : s.size ≤ maxLen) (hx : a.eval x = .string s) (val : Value) (hv : a.eval v = val)
    (hK : ∀ w', MapAt w' k b (putL s.data.toList val L) → Mod (· = b) w w' → w'.heap.size = w.heap.size → wpList Try.prog ops Q rest (a.put o.dst undef) w') :
    wpList Try.prog ops Q (o :: rest) a w := by
  refine wpList_mapUpdate_in w hg m x v t hop k e (string_keyed hk) ht VR b _ (mapD L) hm h.tight (by omega) _ val (.string s.data.toList) hx hv (Go.WideMaps.keyOf_string_mk hk hs) (.held val) [] rfl ?_
  intro w' h1 h2
  rw [put_mapD] at h1
  refine hK w' ⟨_, hroom, h1⟩ ((Mod.of_grown h2.grown).mono fun i hi => by cases hi; rfl) ?_
  obtain ⟨es, c, es', c', _, rfl⟩ := h2
  simp [ChangeMaps.setBlock]
theorem map_len (hg : o.guard = none) (m : Operand) (t : TypeId) (hop : o.op = Op.call { callee := Callee.builtin Builtin.len, args := #[m], argTypes := #[t] }) (k e : TypeId) (ht : Try.prog.underlying t = some (.map k e))
    (b : Nat) (L : List NameV) (hm : a.eval m = .map (some b)) (h : MapAt w k b L) (hK : wpList Try.prog ops Q rest (a.put o.dst (.int .i64 L.length)) w) : wpList Try.prog ops Q (o :: rest) a w := by
  refine wpList_len_own w hg m t hop k e ht VR b _ (mapD L) hm h.tight ?_
  rw [size_mapD]; exact hK
end
/-- The entries stand in the order of their names. -/
def Sorted (L : List NameV) : Prop := L.Pairwise fun p q => bytesBefore p.1 q.1 = true
theorem MapAt.sorted {w : World} {k : TypeId} {b : Nat} {L : List NameV} (h : MapAt w k b L) (hk : Try.prog.underlying k = some .string) : Sorted L := by
  obtain ⟨n, _, es, clock, _, F, _, hD⟩ := h
  have hr := WideShapes.rising_pairwise _ (Maps.fit_rising (string_keyed hk) F)
  have : L.map ent = (es.toList.map (WideElems.rg Try.prog k VR)).foldr DataW.insert [] := by
    unfold mapD at hD; injection hD
  rw [← this, List.pairwise_map] at hr
  exact hr
end Go.Proofs.Ytenlpklgpcnfiaa
