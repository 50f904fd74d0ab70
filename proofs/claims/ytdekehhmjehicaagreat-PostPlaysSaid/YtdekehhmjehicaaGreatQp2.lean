import Derived.Test.YtdekehhmjehicaaGreatQp1
import Derived.Test.YtdekehhmjehicaaGreatRows
import Derived.Maps.OwnSet
import Derived.StringKeys
import Derived.Maps.RangeWalk
import Derived.Lib.DecodeN
import Derived.Lib.QuoteLoop
import Derived.Lib.OthersKept
import Derived.Shelf.Small.Utf8
import Derived.Shelf.Small.Strs
import Derived.Shelf.Small.Wraps
import Derived.Shelf.Strings.Search1
import Derived.Shelf.Strings.Runes
import Derived.Ground.Names2Prog
import Derived.Shelf.Slices.SearchI
import Derived.Test.YtdekehhmjehicaaGreatProg
import Derived.Laws.Runes
import Derived.BigQuiet
/-
  A region that draws its order, whose own operations only read, and whose callees leave a world of a class 'D': walked once, in the order of the text. The class's worlds are the letters 's.W'. No condition.
-/
namespace Go.Proofs.YtdekehhmjehicaaGreat
set_option linter.unusedVariables false
set_option linter.unusedSimpArgs false
open Go.RowKit
/-- a world of a class, with the word for it -/
structure Cls (D : World → Prop) where
  W : World
  ok : D W
theorem wp_region_cls {P : Program} {id : Nat} {Q : Exit → Act → World → Prop} {a : Act} {w : World} {l : List Oper} (D : World → Prop) (hm : P.follows .mixedOrders = true) (hB : Region.lexB .any l.toArray = true) (hC : D w.drew)
    (h : wpQuiet P l.toArray (fun w' => ∃ s : Cls D, w' = s.W) (fun a' => ∀ w', (∃ s : Cls D, w' = s.W) → Q .normal a' w') l a) : (Code.region id l.toArray true).wp P Q a w :=
  wp_region_quiet (C := fun w' => ∃ s : Cls D, w' = s.W) hm hB ⟨⟨_, hC⟩, rfl⟩ (by simpa using h)
theorem cls_of {P : Program} {D : World → Prop} {f : FuncId} {args : Array Value} {w : World} {v : Value}
    (h : Calls P f args w fun e w' => e = .returned v ∧ D w') : Calls P f args w fun e w'' => e = .returned v ∧ ∃ t : Cls D, w'' = t.W :=
  h.mono fun _ _ ⟨he, hd⟩ => ⟨he, ⟨_, hd⟩, rfl⟩
end Go.Proofs.YtdekehhmjehicaaGreat
/-
  Maps keyed by texts, whatever their elements: a block that is a map reads as the list of its entries, in the order of their names. By the kit's laws on a map's block, read through a token that is the element itself.
-/
namespace Go.Proofs.YtdekehhmjehicaaGreat
set_option linter.unusedVariables false
set_option linter.unusedSimpArgs false
open Go.RowKit
open Go.Maps (Keyed string_keyed)
abbrev NameV := List UInt8 × Value
def VR (v : Value) : Option (DataW Value × List MemPlace) := some (.held v, [])
def ent (p : NameV) : Lit × DataW Value := (.string p.1, .held p.2)
def mapD (L : List NameV) : DataW Value := .map (L.map ent)
def findL (L : List NameV) (s : List UInt8) : Option Value := (L.find? (fun p => p.1 == s)).map (·.2)
def insL (x : NameV) : List NameV → List NameV
  | [] => [x]
  | y :: l => if bytesBefore x.1 y.1 then x :: y :: l else y :: insL x l
def putL (s : List UInt8) (v : Value) (L : List NameV) : List NameV := insL (s, v) (L.filter fun p => !(p.1 == s))
def MapAt (w : World) (k : TypeId) (b : Nat) (L : List NameV) : Prop := ∃ n, n < maxLen ∧ w.ownsMap Tryz.prog k VR b n (mapD L)
theorem has_mapD (L : List NameV) (s : List UInt8) : Maps.has (mapD L) (.string s) = (findL L s).isSome := by
  unfold mapD Maps.has findL
  induction L with
  | nil => rfl
  | cons p L ih =>
    simp only [List.map_cons, List.any_cons, List.find?_cons]
    show (p.1 == s || _) = _
    by_cases h : (p.1 == s) = true
    · simp [h]
    · simp only [Bool.not_eq_true] at h
      rw [h]; simpa using ih
theorem atKey_mapD (L : List NameV) (s : List UInt8) (z : Value) : (mapD L).atKey (.string s) (.held z) = .held ((findL L s).getD z) := by
  unfold mapD DataW.atKey findL
  induction L with
  | nil => rfl
  | cons p L ih =>
    simp only [List.map_cons, List.find?_cons]
    have : (ent p).1.sameKey (.string s) = (p.1 == s) := rfl
    rw [this]
    by_cases h : (p.1 == s) = true
    · simp [h, ent]
    · simp only [Bool.not_eq_true] at h
      rw [h]; simpa using ih
theorem size_mapD (L : List NameV) : Maps.size (mapD L) = L.length := by simp [mapD, Maps.size]
theorem put_mapD (L : List NameV) (s : List UInt8) (v : Value) : (mapD L).put (.string s) (.held v) = mapD (putL s v L) := by
  have hf : (L.map ent).filter (fun p => !p.1.sameKey (.string s)) = (L.filter fun p => !(p.1 == s)).map ent := by
    rw [List.filter_map]; rfl
  have hi : ∀ l : List NameV, DataW.insert (Lit.string s, DataW.held v) (l.map ent) = (insL (s, v) l).map ent := by
    intro l
    induction l with
    | nil => rfl
    | cons y l ih =>
      simp only [List.map_cons, DataW.insert, insL]
      have : (Lit.string s).before (ent y).1 = bytesBefore s y.1 := rfl
      rw [this, ih]
      split <;> rfl
  show DataW.map _ = DataW.map _
  rw [hf, hi]; rfl
section
variable {F : Nat → Prop} {w w' : World} {k : TypeId} {b : Nat} {L : List NameV}
theorem MapAt.lt (h : MapAt w k b L) : b < w.heap.size := by obtain ⟨n, _, h⟩ := h; exact h.lt
theorem MapAt.mod (h : MapAt w k b L) (hm : Mod F w w') (hb : ¬ F b) : MapAt w' k b L := by
  have hlt := h.lt
  obtain ⟨n, hn, es, clock, h1, h2, h3, h4⟩ := h
  exact ⟨n, hn, es, clock, (hm.block b hlt hb).trans h1, h2, h3, h4⟩
theorem MapAt.alloc (h : MapAt w k b L) (o : Obj) : MapAt (w.alloc o) k b L := by obtain ⟨n, hn, h⟩ := h; exact ⟨n, hn, h.alloc o⟩
theorem MapAt.made (w : World) (k : TypeId) : MapAt (w.alloc (.map #[] 0)) k w.heap.size [] := ⟨0, by decide, World.ownsMap_made _ _ _ _⟩
theorem MapAt.tight (h : MapAt w k b L) : w.ownsMap Tryz.prog k VR b L.length (mapD L) := by
  obtain ⟨n, hn, es, clock, h1, h2, h3, h4⟩ := h
  refine ⟨es, clock, h1, h2, ?_, h4⟩
  have := congrArg Maps.size h4
  rw [size_mapD] at this
  rw [this]; simp [Maps.size, length_sorted]
end
section
variable (w : World) {ops : Array Oper} {rest : List Oper} {o : Oper} {a : Act} {Q : Exit → Act → World → Prop}
theorem map_look_ok (hg : o.guard = none) (m x : Operand) (t : TypeId) (hop : o.op = Op.lookup t m x true) (k e : TypeId) (ht : Tryz.prog.underlying t = some (.map k e)) (hk : Tryz.prog.underlying k = some .string)
    {z : Value} (hz : (zeroValue e).run Tryz.prog w = .ok z w) (b : Nat) (L : List NameV) (hm : a.eval m = .map (some b)) (h : MapAt w k b L) (s : ByteArray) (hs : s.size ≤ maxLen) (hx : a.eval x = .string s)
    (hK : wpList Tryz.prog ops Q rest (a.put o.dst (.tuple #[(findL L s.data.toList).getD z, .bool (findL L s.data.toList).isSome])) w) :
    wpList Tryz.prog ops Q (o :: rest) a w := by
  refine wpList_lookup_own_ok w hg m x t hop k e (string_keyed hk) ht VR hz (.held z) [] rfl b _ (mapD L) hm h.tight _ (.string s.data.toList) hx (Go.WideMaps.keyOf_string_mk hk hs) ?_
  intro v ps hv
  rw [atKey_mapD] at hv
  have : v = (findL L s.data.toList).getD z := by simp [VR] at hv; exact hv.1
  rw [this, has_mapD]
  exact hK
theorem map_look (hg : o.guard = none) (m x : Operand) (t : TypeId) (hop : o.op = Op.lookup t m x false) (k e : TypeId) (ht : Tryz.prog.underlying t = some (.map k e)) (hk : Tryz.prog.underlying k = some .string)
    {z : Value} (hz : (zeroValue e).run Tryz.prog w = .ok z w) (b : Nat) (L : List NameV) (hm : a.eval m = .map (some b)) (h : MapAt w k b L) (s : ByteArray) (hs : s.size ≤ maxLen) (hx : a.eval x = .string s)
    (hK : wpList Tryz.prog ops Q rest (a.put o.dst ((findL L s.data.toList).getD z)) w) :
    wpList Tryz.prog ops Q (o :: rest) a w := by
  refine wpList_plain hg fun K' hK' => ?_
  obtain ⟨v, ps, hrun, hv⟩ := h.tight.lookup (string_keyed hk) ht hz (zd := .held z) (zp := []) rfl (Go.WideMaps.keyOf_string_mk hk hs)
  rw [atKey_mapD] at hv
  have : v = (findL L s.data.toList).getD z := by simp [VR] at hv; exact hv.1
  rw [this] at hrun
  unfold Oper.wp
  simp [execOp, hop, hm, hx, hrun, Result.andThen]
  exact hK' _ _ hK
theorem map_store (hg : o.guard = none) (m x v : Operand) (t : TypeId) (hop : o.op = Op.mapUpdate t m x v) (k e : TypeId) (ht : Tryz.prog.underlying t = some (.map k e)) (hk : Tryz.prog.underlying k = some .string)
    (b : Nat) (L : List NameV) (hm : a.eval m = .map (some b)) (h : MapAt w k b L) (hroom : L.length + 1 < maxLen) (s : ByteArray) (hs : s.size ≤ maxLen) (hx : a.eval x = .string s) (val : Value) (hv : a.eval v = val)
    (hK : ∀ w', MapAt w' k b (putL s.data.toList val L) → Mod (· = b) w w' → w'.heap.size = w.heap.size → wpList Tryz.prog ops Q rest (a.put o.dst undef) w') :
    wpList Tryz.prog ops Q (o :: rest) a w := by
  refine wpList_mapUpdate_in w hg m x v t hop k e (string_keyed hk) ht VR b _ (mapD L) hm h.tight (by omega) _ val (.string s.data.toList) hx hv (Go.WideMaps.keyOf_string_mk hk hs) (.held val) [] rfl ?_
  intro w' h1 h2
  rw [put_mapD] at h1
  refine hK w' ⟨_, hroom, h1⟩ ((Mod.of_grown h2.grown).mono fun i hi => by cases hi; rfl) ?_
  obtain ⟨es, c, es', c', _, rfl⟩ := h2
  simp [ChangeMaps.setBlock]
theorem map_len (hg : o.guard = none) (m : Operand) (t : TypeId) (hop : o.op = Op.call { callee := Callee.builtin Builtin.len, args := #[m], argTypes := #[t] }) (k e : TypeId) (ht : Tryz.prog.underlying t = some (.map k e))
    (b : Nat) (L : List NameV) (hm : a.eval m = .map (some b)) (h : MapAt w k b L) (hK : wpList Tryz.prog ops Q rest (a.put o.dst (.int .i64 L.length)) w) : wpList Tryz.prog ops Q (o :: rest) a w := by
  refine wpList_len_own w hg m t hop k e ht VR b _ (mapD L) hm h.tight ?_
  rw [size_mapD]; exact hK
end
/-- The entries stand in the order of their names. -/
def Sorted (L : List NameV) : Prop := L.Pairwise fun p q => bytesBefore p.1 q.1 = true
theorem MapAt.sorted {w : World} {k : TypeId} {b : Nat} {L : List NameV} (h : MapAt w k b L) (hk : Tryz.prog.underlying k = some .string) : Sorted L := by
  obtain ⟨n, _, es, clock, _, F, _, hD⟩ := h
  have hr := WideShapes.rising_pairwise _ (Maps.fit_rising (string_keyed hk) F)
  have : L.map ent = (es.toList.map (WideElems.rg Tryz.prog k VR)).foldr DataW.insert [] := by
    unfold mapD at hD; injection hD
  rw [← this, List.pairwise_map] at hr
  exact hr
end Go.Proofs.YtdekehhmjehicaaGreat
/-
  The order of texts, byte by byte: whole, and lists that rise by it. Plain.
-/
namespace Go.Proofs.YtdekehhmjehicaaGreat
set_option linter.unusedVariables false
set_option linter.unusedSimpArgs false
open Go.RowKit
theorem bb_irrefl : ∀ a : List UInt8, bytesBefore a a = false
  | [] => rfl
  | a :: r => by simp [bytesBefore, bb_irrefl r]
theorem bb_cons (a b : UInt8) (r s : List UInt8) : bytesBefore (a :: r) (b :: s) = true ↔ a < b ∨ (a = b ∧ bytesBefore r s = true) := by simp [bytesBefore]
theorem bb_trans : ∀ a b c : List UInt8, bytesBefore a b = true → bytesBefore b c = true → bytesBefore a c = true
  | [], [], _, h, _ => by simp [bytesBefore] at h
  | [], _ :: _, [], _, h => by simp [bytesBefore] at h
  | [], _ :: _, _ :: _, _, _ => rfl
  | _ :: _, [], _, h, _ => by simp [bytesBefore] at h
  | _ :: _, _ :: _, [], _, h => by simp [bytesBefore] at h
  | x :: a, y :: b, z :: c, h, g => by
    rw [bb_cons] at h g ⊢
    rcases h with h | ⟨rfl, h⟩
    · rcases g with g | ⟨rfl, g⟩
      · exact .inl (UInt8.lt_trans h g)
      · exact .inl h
    · rcases g with g | ⟨rfl, g⟩
      · exact .inl g
      · exact .inr ⟨rfl, bb_trans a b c h g⟩
theorem bb_total : ∀ a b : List UInt8, bytesBefore a b = true ∨ a = b ∨ bytesBefore b a = true
  | [], [] => .inr (.inl rfl)
  | [], _ :: _ => .inl rfl
  | _ :: _, [] => .inr (.inr rfl)
  | x :: a, y :: b => by
    rw [bb_cons, bb_cons]
    have tri : x < y ∨ x = y ∨ y < x := by
      rcases Nat.lt_trichotomy x.toNat y.toNat with h | h | h
      · exact .inl (UInt8.lt_iff_toNat_lt.2 h)
      · exact .inr (.inl (UInt8.toNat_inj.1 h))
      · exact .inr (.inr (UInt8.lt_iff_toNat_lt.2 h))
    rcases tri with h | rfl | h
    · exact .inl (.inl h)
    · rcases bb_total a b with h | rfl | h
      · exact .inl (.inr ⟨rfl, h⟩)
      · exact .inr (.inl rfl)
      · exact .inr (.inr (.inr ⟨rfl, h⟩))
    · exact .inr (.inr (.inl h))
theorem bb_asymm {a b : List UInt8} (h : bytesBefore a b = true) : bytesBefore b a = false := by
  cases hb : bytesBefore b a with
  | false => rfl
  | true => have := bb_trans a b a h hb; rw [bb_irrefl] at this; cases this
theorem bb_ne {a b : List UInt8} (h : bytesBefore a b = true) : a ≠ b := by rintro rfl; rw [bb_irrefl] at h; cases h
end Go.Proofs.YtdekehhmjehicaaGreat
/-
  A range over a text: what its runes are, byte by byte. Plain.
-/
namespace Go.Proofs.YtdekehhmjehicaaGreat
set_option linter.unusedVariables false
set_option linter.unusedSimpArgs false
open Go.RowKit
set_option maxRecDepth 100000 in
theorem dec_wide (s : ByteArray) (i : Nat) (h : 128 ≤ (s.get! i).toNat) : 128 ≤ (Utf8.decode s i).1 ∧ ((Utf8.decode s i).1 < 55296 ∨ 57343 < (Utf8.decode s i).1 ∧ (Utf8.decode s i).1 ≤ 1114111) := by
  refine ⟨?_, ?_⟩
  · rw [Lib.decode_at]
    generalize (s.get! i).toNat = b0 at h
    generalize (s.get! (i + 1)).toNat = b1
    generalize (s.get! (i + 2)).toNat = b2
    generalize (s.get! (i + 3)).toNat = b3
    unfold Lib.decodeN
    repeat' split
    all_goals (simp only; omega)
  · rw [Lib.decode_at]
    exact Lib.decodeN_valid _ _ _ _ _ (UInt8.toNat_lt _)
end Go.Proofs.YtdekehhmjehicaaGreat
/-
  DERIVED: THE SHELF's CONTRACTS AT THIS DUMP, IN PLAIN WORDS (tools/lay-plain.mjs out of 'TryzShelf.lean', which tools/lay-shelf.mjs wrote): THE SAME DECLARATIONS UNDER THE SAME NAMES: 'import', 'namespace', 'open', 'def', 'theorem' AND NOTHING ELSE: no command of the shelf's: FOR A HAND-IN. Each laying: the table of numbers ('.._ren') and one theorem, a field a fact of the dump's own or the kernel's comparison; each contract: ONE APPLICATION.
-/
namespace Go.Proofs
open Go.Shelf
def Tryz.lays119_ren : Go.Shelf.Ren := ⟨fun | 119 => 105 | n => n, fun | 21 => 21 | 4 => 4 | n => n, fun | n => n⟩
theorem Tryz.lays119 : Go.Proofs.Lays.n119 Tryz.prog Tryz.lays119_ren := {
  mixed := by kernel_rfl
  f119 := Tryz.func105.trans (congrArg some (by kernel_rfl))
  t4 := Tryz.underlying4
  a4 := Tryz.isAgg4
  z4 := Tryz.sizeOf4
  v4 := Tryz.zeroValue4
  t21 := Tryz.underlying21
  a21 := Tryz.isAgg21
  z21 := Tryz.sizeOf21
  v21 := Tryz.zeroValue21 }
/-- utf8.ValidRune: "ValidRune reports whether r can be legally encoded as UTF-8. Code points that are out of range or a surrogate half are illegal.": IT RETURNS 'Lib.validRune r'; the world is as it was. (LAID: no walk: one application.) -/
theorem Tryz.utf8_ValidRune (r : Int) (w : World) :
    Calls Tryz.prog 105 #[.int .i32 r] w fun e w' => e = .returned (.bool (Lib.validRune r)) ∧ w' = w := Any.utf8_ValidRune Tryz.lays119 r w
def Tryz.lays137_ren : Go.Shelf.Ren := ⟨fun | 137 => 104 | 217 => 108 | 266 => 109 | n => n, fun | 9 => 9 | 5 => 5 | 3 => 3 | n => n, fun | n => n⟩
theorem Tryz.lays137 : Go.Proofs.Lays.n137 Tryz.prog Tryz.lays137_ren := {
  mixed := by kernel_rfl
  f137 := Tryz.func104.trans (congrArg some (by kernel_rfl))
  f217 := Tryz.func108.trans (congrArg some (by kernel_rfl))
  f266 := Tryz.func109.trans (congrArg some (by kernel_rfl))
  t3 := Tryz.underlying3
  a3 := Tryz.isAgg3
  z3 := Tryz.sizeOf3
  v3 := Tryz.zeroValue3
  t5 := Tryz.underlying5
  a5 := Tryz.isAgg5
  z5 := Tryz.sizeOf5
  v5 := Tryz.zeroValue5
  t9 := Tryz.underlying9
  a9 := Tryz.isAgg9
  z9 := Tryz.sizeOf9
  v9 := Tryz.zeroValue9 }
open Go.RowKit in
/-- strings.IndexByte: "IndexByte returns the index of the first instance of c in s, or -1 if c is not present in s.": IT RETURNS 'Lib.indexByte s c'; the world is as it was. (LAID: no walk: one application.) -/
theorem Tryz.strings_IndexByte (s : ByteArray) (c : Int) (w : World) :
    Calls Tryz.prog 104 #[.string s, .int .u8 c] w fun e w' => e = .returned (.int .i64 (Lib.indexByte s.data.toList c.toNat.toUInt8)) ∧ w' = w := Any.strings_IndexByte Tryz.lays137 s c w
def Tryz.lays215_ren : Go.Shelf.Ren := ⟨fun | 215 => 103 | n => n, fun | 3 => 3 | 4 => 4 | n => n, fun | n => n⟩
theorem Tryz.lays215 : Go.Proofs.Lays.n215 Tryz.prog Tryz.lays215_ren := {
  mixed := by kernel_rfl
  f215 := Tryz.func103.trans (congrArg some (by kernel_rfl))
  t3 := Tryz.underlying3
  a3 := Tryz.isAgg3
  z3 := Tryz.sizeOf3
  v3 := Tryz.zeroValue3
  t4 := Tryz.underlying4
  a4 := Tryz.isAgg4
  z4 := Tryz.sizeOf4
  v4 := Tryz.zeroValue4 }
open Go.RowKit in
/-- cmp.isNaN at int: 'x != x': false. (LAID: no walk: one application.) -/
theorem Tryz.cmp_isNaN_int (x : Int) (w : World) :
    Calls Tryz.prog 103 #[.int .i64 x] w fun e w' => e = .returned (.bool false) ∧ w' = w := Any.cmp_isNaN_int Tryz.lays215 x w
def Tryz.lays122_ren : Go.Shelf.Ren := ⟨fun | 122 => 101 | 215 => 103 | n => n, fun | 3 => 3 | 4 => 4 | n => n, fun | n => n⟩
theorem Tryz.lays122 : Go.Proofs.Lays.n122 Tryz.prog Tryz.lays122_ren := {
  mixed := by kernel_rfl
  f122 := Tryz.func101.trans (congrArg some (by kernel_rfl))
  f215 := Tryz.func103.trans (congrArg some (by kernel_rfl))
  t3 := Tryz.underlying3
  a3 := Tryz.isAgg3
  z3 := Tryz.sizeOf3
  v3 := Tryz.zeroValue3
  t4 := Tryz.underlying4
  a4 := Tryz.isAgg4
  z4 := Tryz.sizeOf4
  v4 := Tryz.zeroValue4 }
open Go.RowKit in
/-- cmp.Compare at int: "Compare returns -1 if x is less than y, 0 if x equals y, +1 if x is greater than y.": IT RETURNS 'Lib.compareInt x y'; the world is as it was. (LAID: no walk: one application.) -/
theorem Tryz.cmp_Compare_int (x y : Int) (w : World) :
    Calls Tryz.prog 101 #[.int .i64 x, .int .i64 y] w fun e w' => e = .returned (.int .i64 (Lib.compareInt x y)) ∧ w' = w := Any.cmp_Compare_int Tryz.lays122 x y w
def Tryz.lays217_ren : Go.Shelf.Ren := ⟨fun | 217 => 108 | 266 => 109 | n => n, fun | 9 => 9 | 5 => 5 | 3 => 3 | n => n, fun | n => n⟩
theorem Tryz.lays217 : Go.Proofs.Lays.n217 Tryz.prog Tryz.lays217_ren := {
  mixed := by kernel_rfl
  f217 := Tryz.func108.trans (congrArg some (by kernel_rfl))
  f266 := Tryz.func109.trans (congrArg some (by kernel_rfl))
  t3 := Tryz.underlying3
  a3 := Tryz.isAgg3
  z3 := Tryz.sizeOf3
  v3 := Tryz.zeroValue3
  t5 := Tryz.underlying5
  a5 := Tryz.isAgg5
  z5 := Tryz.sizeOf5
  v5 := Tryz.zeroValue5
  t9 := Tryz.underlying9
  a9 := Tryz.isAgg9
  z9 := Tryz.sizeOf9
  v9 := Tryz.zeroValue9 }
open Go.RowKit Go.Lib in
/-- internal/stringslite.IndexByte (what strings.IndexByte calls): IT RETURNS 'Lib.indexByte s c'; the world is as it was. (LAID: no walk: one application.) -/
theorem Tryz.stringslite_IndexByte (s : ByteArray) (c : Int) (w : World) :
    Calls Tryz.prog 108 #[.string s, .int .u8 c] w fun e w' => e = .returned (.int .i64 (Lib.indexByte s.data.toList c.toNat.toUInt8)) ∧ w' = w := Any.stringslite_IndexByte Tryz.lays217 s c w
def Tryz.lays224_ren : Go.Shelf.Ren := ⟨fun | 224 => 106 | n => n, fun | 3 => 3 | n => n, fun | n => n⟩
theorem Tryz.lays224 : Go.Proofs.Lays.n224 Tryz.prog Tryz.lays224_ren := {
  mixed := by kernel_rfl
  f224 := Tryz.func106.trans (congrArg some (by kernel_rfl))
  t3 := Tryz.underlying3
  a3 := Tryz.isAgg3
  z3 := Tryz.sizeOf3
  v3 := Tryz.zeroValue3 }
open Go.RowKit Go.Lib in
/-- internal/bytealg.Cutover: "Cutover reports the number of failures of IndexByte we should tolerate before switching over to Index. n is the number of bytes processed so far.": on amd64: (n + 16) / 8. (LAID: no walk: one application.) -/
theorem Tryz.bytealg_Cutover (n : Int) (h0 : 0 ≤ n) (h1 : n < 4611686018427387904) (w : World) :
    Calls Tryz.prog 106 #[.int .i64 n] w fun e w' => e = .returned (.int .i64 ((n + 16) / 8)) ∧ w' = w := Any.bytealg_Cutover Tryz.lays224 n h0 h1 w
def Tryz.lays152_ren : Go.Shelf.Ren := ⟨fun | 152 => 102 | 137 => 104 | 119 => 105 | 224 => 106 | 225 => 107 | 217 => 108 | 266 => 109 | n => n, fun | 9 => 9 | 21 => 21 | 3 => 3 | 4 => 4 | 5 => 5 | 0 => 0 | 46 => 32 | n => n, fun | n => n⟩
theorem Tryz.lays152 : Go.Proofs.Lays.n152 Tryz.prog Tryz.lays152_ren := {
  mixed := by kernel_rfl
  f119 := Tryz.func105.trans (congrArg some (by kernel_rfl))
  f137 := Tryz.func104.trans (congrArg some (by kernel_rfl))
  f152 := Tryz.func102.trans (congrArg some (by kernel_rfl))
  f217 := Tryz.func108.trans (congrArg some (by kernel_rfl))
  f224 := Tryz.func106.trans (congrArg some (by kernel_rfl))
  f225 := Tryz.func107.trans (congrArg some (by kernel_rfl))
  f266 := Tryz.func109.trans (congrArg some (by kernel_rfl))
  t0 := Tryz.underlying0
  a0 := Tryz.isAgg0
  z0 := Tryz.sizeOf0
  v0 := Tryz.zeroValue0
  t3 := Tryz.underlying3
  a3 := Tryz.isAgg3
  z3 := Tryz.sizeOf3
  v3 := Tryz.zeroValue3
  t4 := Tryz.underlying4
  a4 := Tryz.isAgg4
  z4 := Tryz.sizeOf4
  v4 := Tryz.zeroValue4
  t5 := Tryz.underlying5
  a5 := Tryz.isAgg5
  z5 := Tryz.sizeOf5
  v5 := Tryz.zeroValue5
  t9 := Tryz.underlying9
  a9 := Tryz.isAgg9
  z9 := Tryz.sizeOf9
  v9 := Tryz.zeroValue9
  t21 := Tryz.underlying21
  a21 := Tryz.isAgg21
  z21 := Tryz.sizeOf21
  v21 := Tryz.zeroValue21
  t46 := Tryz.underlying32
  a46 := Tryz.isAgg32
  z46 := Tryz.sizeOf32
  v46 := Tryz.zeroValue32 }
open Go.RowKit Go.Lib in
theorem Tryz.strings_IndexRune_ascii (s : ByteArray) (r : Int) (w : World) (h0 : 0 ≤ r) (h1 : r < 128) :
    Calls Tryz.prog 102 #[.string s, .int .i32 r] w fun e w' => e = .returned (.int .i64 (Lib.indexByte s.data.toList r.toNat.toUInt8)) ∧ w' = w := Any.strings_IndexRune_ascii Tryz.lays152 s r w h0 h1
def Tryz.laysNm237_ren : Go.Shelf.Ren := ⟨fun | 37 => 103 | n => n, fun | 3 => 3 | 4 => 4 | n => n, fun | n => n⟩
theorem Tryz.laysNm237 : Go.Proofs.Lays2.n37 Tryz.prog Tryz.laysNm237_ren := {
  mixed := by kernel_rfl
  f37 := Tryz.func103.trans (congrArg some (by kernel_rfl))
  t3 := Tryz.underlying3
  a3 := Tryz.isAgg3
  z3 := Tryz.sizeOf3
  v3 := Tryz.zeroValue3
  t4 := Tryz.underlying4
  a4 := Tryz.isAgg4
  z4 := Tryz.sizeOf4
  v4 := Tryz.zeroValue4 }
open Go.RowKit Go.Lib in
/-- cmp.isNaN[int]: 'x != x': false. (LAID: no walk: one application.) -/
theorem Tryz.cmp_isNaN_int2 (x : Int) (w : World) :
    Calls Tryz.prog 103 #[.int .i64 x] w fun e w' => e = .returned (.bool false) ∧ w' = w := Any.cmp_isNaN_int2 Tryz.laysNm237 x w
end Go.Proofs
/-
  strings.IndexRune of a rune of two bytes or more in the signs of a name: -1.
-/
namespace Go.Proofs.YtdekehhmjehicaaGreat
set_option linter.unusedVariables false
set_option linter.unusedSimpArgs false
open Go.RowKit
def signs : ByteArray := ⟨#[97, 98, 99, 100, 101, 102, 103, 104, 105, 106, 107, 108, 109, 110, 111, 112, 113, 114, 115, 116, 117, 118, 119, 120, 121, 122, 48, 49, 50, 51, 52, 53, 54, 55, 56, 57]⟩
theorem ixb_none : ∀ (l : List UInt8) (c : UInt8), (∀ b ∈ l, b ≠ c) → Lib.indexByte l c = -1
  | [], _, _ => rfl
  | b :: l, c, h => by
    have h1 : (b == c) = false := by have := h b (by simp); simpa using this
    have h2 := ixb_none l c (fun x hx => h x (by simp [hx]))
    simp [Lib.indexByte, h1, h2]
theorem sign_small (b : UInt8) (h : b ∈ signs.data.toList) : b.toNat < 128 := by
  have : ∀ b ∈ signs.data.toList, b.toNat < 128 := by decide
  exact this b h
set_option maxRecDepth 1000000 in
set_option maxHeartbeats 4000000 in
theorem ixr_wide (w : World) (r : Nat) (h1 : 128 ≤ r) (hv : r < 55296 ∨ 57343 < r ∧ r ≤ 1114111) (hr : ¬ r = 65533) : Calls Tryz.prog 102 #[.string signs, .int .i32 (r : Int)] w fun e w' => e = .returned (.int .i64 (-1)) ∧ Mod none_ w w' := by
  have hsz : signs.size = 36 := rfl
  have hsg := sign_small
  generalize signs = sg at *
  have hok : validRune (r : Int) = true := by simp only [validRune, decide_eq_true_eq]; omega
  obtain ⟨g1, g2, g3⟩ := encode_facts (r : Int) (by rw [validRune_eq]; exact hok) (by omega)
  have hvr := fun W => Tryz.utf8_ValidRune (r : Int) W
  rw [show Lib.validRune (r : Int) = true from hok] at hvr
  obtain ⟨rs, hrs⟩ : ∃ rs, Utf8.encode (r : Int) = rs := ⟨_, rfl⟩
  rw [hrs] at g1 g2 g3
  obtain ⟨m, hm⟩ : ∃ m, rs.size = m + 1 := ⟨rs.size - 1, by omega⟩
  have hm1 : 1 ≤ m ∧ m ≤ 3 := by omega
  have hml : m < rs.size := by omega
  have hmg : m < sg.size := by omega
  have hwm : wrap64 (m : Int) = (m : Int) := IntWalk.wrap64_in _ ⟨by omega, by omega⟩
  have hlast : 128 ≤ (rs[m]'hml).toNat := by
    have := g3 (by omega)
    have e : rs.size - 1 = m := by omega
    simpa only [e] using this
  have hst : ∀ b ∈ (sg.extract (m+1) sg.size).data.toList, b ≠ rs[m]'hml := fun b hb e => by
    have := hsg b (mem_extract hb)
    rw [e] at this; omega
  have hfst : (sg[m]'hmg).toNat < 128 := hsg _ (Array.getElem_mem_toList (xs := sg.data) hmg)
  have i1 : ∀ W, (Instr.index 9 (.string sg) (.int .i64 (m : Int))).run Tryz.prog W = .ok (.int .u8 ((sg[m]'hmg).toNat : Int)) W := fun W => by
    rw [run_index_string W _ sg .i64 m Tryz.underlying9, dif_pos (by omega)]
    rfl
  have i2 : ∀ W, (Instr.index 9 (.string rs) (.int .i64 (m : Int))).run Tryz.prog W = .ok (.int .u8 ((rs[m]'hml).toNat : Int)) W := fun W => by
    rw [run_index_string W _ rs .i64 m Tryz.underlying9, dif_pos (by omega)]
    rfl
  have i3 : ∀ W, (Instr.slice 9 (.string sg) (some (.int .i64 ((m : Int) + 1))) none none).run Tryz.prog W = .ok (.string (sg.extract (m+1) sg.size)) W := fun W => by
    rw [run_slice_string_l W _ sg Tryz.underlying9 .i64 ((m:Int)+1) (by omega) (by omega)]
    rfl
  have i6 : ∀ W, (Instr.sliceAt 9 (.string sg) (some (.int .i64 ((m : Int) + 1))) none none).run Tryz.prog W = .ok (.string (sg.extract (m+1) sg.size)) W := fun W => by
    rw [run_sliceAt_string W _ _ _ _ _ Tryz.underlying9, i3 W]
  have i4 : ∀ W, Calls Tryz.prog 104 #[.string (sg.extract (m+1) sg.size), .int .u8 ((rs[m]'hml).toNat : Int)] W fun e w' => e = .returned (.int .i64 (-1)) ∧ w' = W := fun W => by
    have := Tryz.strings_IndexByte (sg.extract (m+1) sg.size) ((rs[m]'hml).toNat : Int) W
    rw [show (((rs[m]'hml).toNat : Int).toNat).toUInt8 = rs[m]'hml by simp, ixb_none _ _ hst] at this
    exact this
  have i5 : (((sg[m]'hmg).toNat : Int) == ((rs[m]'hml).toNat : Int)) = false := by simp; omega
  generalize ((rs[m]'hml).toNat : Int) = c at *
  generalize ((sg[m]'hmg).toNat : Int) = d at *
  generalize sg.extract (m+1) sg.size = st at *
  replace hok := Lib.hid hok
  replace hvr := Lib.hid hvr
  replace hv := Lib.hid hv
  replace g1 := Lib.hid g1
  replace g2 := Lib.hid g2
  replace g3 := Lib.hid g3
  replace hsg := Lib.hid hsg
  replace hrs := Lib.hid hrs
  replace hm := Lib.hid hm
  replace hm1 := Lib.hid hm1
  replace hsz := Lib.hid hsz
  replace hml := Lib.hid hml
  replace hmg := Lib.hid hmg
  replace hwm := Lib.hid hwm
  replace hlast := Lib.hid hlast
  replace hst := Lib.hid hst
  replace hfst := Lib.hid hfst
  replace i1 := Lib.hid i1
  replace i2 := Lib.hid i2
  replace i3 := Lib.hid i3
  replace i4 := Lib.hid i4
  replace i5 := Lib.hid i5
  replace i6 := Lib.hid i6
  go_enter Tryz.func102, Tryz.ntmps102
  go_wp2_with (go_step3)
  refine (hvr.out w).mono ?_
  rintro e w1 ⟨rfl, rfl⟩
  dsimp only
  have hm := hm.out
  have hm1 := hm1.out
  have hsz := hsz.out
  have hwm := hwm.out
  go_wp2_with (go_step3)
  rename_i K0 a0
  clear a0
  rw [hrs.out]
  rw [hrs.out] at *
  go_loopw [9, 10] (fun x y wr => x = .int .i64 (m : Int) ∧ y = .int .i64 0 ∧ w1 = wr) (fun _ _ _ => 0)
  case atStart =>
    refine ⟨?_, rfl, rfl⟩
    rw [hm, show (((m + 1 : Nat) : Int) - 1) = (m : Int) by omega, hwm]
  case round =>
    obtain ⟨rfl, rfl, rfl⟩ := hrel
    replace i1 := i1.out
    replace i2 := i2.out
    replace i3 := i3.out
    replace i6 := i6.out
    replace i5 := i5.out
    have i7 : IntKind.i64.wrap ((m : Int) + 1) = (m : Int) + 1 := wrap_small _ (by omega) (by omega)
    have i8 : ∀ W, (Instr.sliceAt 9 (.string sg) (some (.int .i64 (IntKind.i64.wrap ((m : Int) + 1)))) none none).run Tryz.prog W = .ok (.string st) W := fun W => by rw [i7]; exact i6 W
    have i9 : ∀ W, (Instr.slice 9 (.string sg) (some (.int .i64 (IntKind.i64.wrap ((m : Int) + 1)))) none none).run Tryz.prog W = .ok (.string st) W := fun W => by rw [i7]; exact i3 W
    clear i7
    go_wp2_with (first | go_step3 | (go_quiet ((go_at_call 104; exact (i4.out _).mono (fun e w' h => ⟨h.1, _, h.2⟩)))))
    rw [Exit.noGoto_ret]
    go_ret
    exact ⟨rfl, (Mod.refl none_ w1).drewN _⟩
end Go.Proofs.YtdekehhmjehicaaGreat
