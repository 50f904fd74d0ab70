import Derived.Shelf.Small.Utf8
import Derived.Shelf.Small.Strs
import Derived.Shelf.Small.Wraps
import Derived.Shelf.Strings.Search1
import Derived.Shelf.Strings.Runes
import Derived.Ground.Names2Prog
import Derived.Shelf.Slices.SearchI
import Derived.Test.YtdnbclhidpkpgaaGreatProg
import Derived.Test.YtdnbclhidpkpgaaGreatLp4
import Derived.Laws.Runes
import Derived.BigQuiet
import Derived.Lib.OthersKept
import Derived.LoopTactic
import Derived.Test.YtdnbclhidpkpgaaGreatLp1
/-
  DERIVED: THE SHELF's CONTRACTS AT THIS DUMP, IN PLAIN WORDS (tools/lay-plain.mjs out of 'TryzShelf.lean', which tools/lay-shelf.mjs wrote): THE SAME DECLARATIONS UNDER THE SAME NAMES: 'import', 'namespace', 'open', 'def', 'theorem' AND NOTHING ELSE: no command of the shelf's: FOR A HAND-IN. Each laying: the table of numbers ('.._ren') and one theorem, a field a fact of the dump's own or the kernel's comparison; each contract: ONE APPLICATION.
-/
namespace Go.Proofs
open Go.Shelf
def Tryz.lays119_ren : Go.Shelf.Ren := ⟨fun | 119 => 148 | n => n, fun | 21 => 21 | 4 => 4 | n => n, fun | n => n⟩
theorem Tryz.lays119 : Go.Proofs.Lays.n119 Tryz.prog Tryz.lays119_ren := {
  mixed := by kernel_rfl
  f119 := Tryz.func148.trans (congrArg some (by kernel_rfl))
  t4 := Tryz.underlying4
  a4 := Tryz.isAgg4
  z4 := Tryz.sizeOf4
  v4 := Tryz.zeroValue4
  t21 := Tryz.underlying21
  a21 := Tryz.isAgg21
  z21 := Tryz.sizeOf21
  v21 := Tryz.zeroValue21 }
/-- utf8.ValidRune: "ValidRune reports whether r can be legally encoded as UTF-8. Code points that are out of range or a surrogate half are illegal.": IT RETURNS 'Lib.validRune r'; the world is as it was. (LAID: no walk: one application.) -/
theorem Tryz.utf8_ValidRune (r : Int) (w : World) :
    Calls Tryz.prog 148 #[.int .i32 r] w fun e w' => e = .returned (.bool (Lib.validRune r)) ∧ w' = w := Any.utf8_ValidRune Tryz.lays119 r w
def Tryz.lays137_ren : Go.Shelf.Ren := ⟨fun | 137 => 147 | 217 => 152 | 266 => 153 | n => n, fun | 9 => 9 | 5 => 5 | 3 => 3 | n => n, fun | n => n⟩
theorem Tryz.lays137 : Go.Proofs.Lays.n137 Tryz.prog Tryz.lays137_ren := {
  mixed := by kernel_rfl
  f137 := Tryz.func147.trans (congrArg some (by kernel_rfl))
  f217 := Tryz.func152.trans (congrArg some (by kernel_rfl))
  f266 := Tryz.func153.trans (congrArg some (by kernel_rfl))
  t3 := Tryz.underlying3
  a3 := Tryz.isAgg3
  z3 := Tryz.sizeOf3
  v3 := Tryz.zeroValue3
  t5 := Tryz.underlying5
  a5 := Tryz.isAgg5
  z5 := Tryz.sizeOf5
  v5 := Tryz.zeroValue5
  t9 := Tryz.underlying9
  a9 := Tryz.isAgg9
  z9 := Tryz.sizeOf9
  v9 := Tryz.zeroValue9 }
open Go.RowKit in
/-- strings.IndexByte: "IndexByte returns the index of the first instance of c in s, or -1 if c is not present in s.": IT RETURNS 'Lib.indexByte s c'; the world is as it was. (LAID: no walk: one application.) -/
theorem Tryz.strings_IndexByte (s : ByteArray) (c : Int) (w : World) :
    Calls Tryz.prog 147 #[.string s, .int .u8 c] w fun e w' => e = .returned (.int .i64 (Lib.indexByte s.data.toList c.toNat.toUInt8)) ∧ w' = w := Any.strings_IndexByte Tryz.lays137 s c w
def Tryz.lays215_ren : Go.Shelf.Ren := ⟨fun | 215 => 140 | n => n, fun | 3 => 3 | 4 => 4 | n => n, fun | n => n⟩
theorem Tryz.lays215 : Go.Proofs.Lays.n215 Tryz.prog Tryz.lays215_ren := {
  mixed := by kernel_rfl
  f215 := Tryz.func140.trans (congrArg some (by kernel_rfl))
  t3 := Tryz.underlying3
  a3 := Tryz.isAgg3
  z3 := Tryz.sizeOf3
  v3 := Tryz.zeroValue3
  t4 := Tryz.underlying4
  a4 := Tryz.isAgg4
  z4 := Tryz.sizeOf4
  v4 := Tryz.zeroValue4 }
open Go.RowKit in
/-- cmp.isNaN at int: 'x != x': false. (LAID: no walk: one application.) -/
theorem Tryz.cmp_isNaN_int (x : Int) (w : World) :
    Calls Tryz.prog 140 #[.int .i64 x] w fun e w' => e = .returned (.bool false) ∧ w' = w := Any.cmp_isNaN_int Tryz.lays215 x w
def Tryz.lays122_ren : Go.Shelf.Ren := ⟨fun | 122 => 109 | 215 => 140 | n => n, fun | 3 => 3 | 4 => 4 | n => n, fun | n => n⟩
theorem Tryz.lays122 : Go.Proofs.Lays.n122 Tryz.prog Tryz.lays122_ren := {
  mixed := by kernel_rfl
  f122 := Tryz.func109.trans (congrArg some (by kernel_rfl))
  f215 := Tryz.func140.trans (congrArg some (by kernel_rfl))
  t3 := Tryz.underlying3
  a3 := Tryz.isAgg3
  z3 := Tryz.sizeOf3
  v3 := Tryz.zeroValue3
  t4 := Tryz.underlying4
  a4 := Tryz.isAgg4
  z4 := Tryz.sizeOf4
  v4 := Tryz.zeroValue4 }
open Go.RowKit in
/-- cmp.Compare at int: "Compare returns -1 if x is less than y, 0 if x equals y, +1 if x is greater than y.": IT RETURNS 'Lib.compareInt x y'; the world is as it was. (LAID: no walk: one application.) -/
theorem Tryz.cmp_Compare_int (x y : Int) (w : World) :
    Calls Tryz.prog 109 #[.int .i64 x, .int .i64 y] w fun e w' => e = .returned (.int .i64 (Lib.compareInt x y)) ∧ w' = w := Any.cmp_Compare_int Tryz.lays122 x y w
def Tryz.lays217_ren : Go.Shelf.Ren := ⟨fun | 217 => 152 | 266 => 153 | n => n, fun | 9 => 9 | 5 => 5 | 3 => 3 | n => n, fun | n => n⟩
theorem Tryz.lays217 : Go.Proofs.Lays.n217 Tryz.prog Tryz.lays217_ren := {
  mixed := by kernel_rfl
  f217 := Tryz.func152.trans (congrArg some (by kernel_rfl))
  f266 := Tryz.func153.trans (congrArg some (by kernel_rfl))
  t3 := Tryz.underlying3
  a3 := Tryz.isAgg3
  z3 := Tryz.sizeOf3
  v3 := Tryz.zeroValue3
  t5 := Tryz.underlying5
  a5 := Tryz.isAgg5
  z5 := Tryz.sizeOf5
  v5 := Tryz.zeroValue5
  t9 := Tryz.underlying9
  a9 := Tryz.isAgg9
  z9 := Tryz.sizeOf9
  v9 := Tryz.zeroValue9 }
open Go.RowKit Go.Lib in
/-- internal/stringslite.IndexByte (what strings.IndexByte calls): IT RETURNS 'Lib.indexByte s c'; the world is as it was. (LAID: no walk: one application.) -/
theorem Tryz.stringslite_IndexByte (s : ByteArray) (c : Int) (w : World) :
    Calls Tryz.prog 152 #[.string s, .int .u8 c] w fun e w' => e = .returned (.int .i64 (Lib.indexByte s.data.toList c.toNat.toUInt8)) ∧ w' = w := Any.stringslite_IndexByte Tryz.lays217 s c w
def Tryz.lays224_ren : Go.Shelf.Ren := ⟨fun | 224 => 149 | n => n, fun | 3 => 3 | n => n, fun | n => n⟩
theorem Tryz.lays224 : Go.Proofs.Lays.n224 Tryz.prog Tryz.lays224_ren := {
  mixed := by kernel_rfl
  f224 := Tryz.func149.trans (congrArg some (by kernel_rfl))
  t3 := Tryz.underlying3
  a3 := Tryz.isAgg3
  z3 := Tryz.sizeOf3
  v3 := Tryz.zeroValue3 }
open Go.RowKit Go.Lib in
/-- internal/bytealg.Cutover: "Cutover reports the number of failures of IndexByte we should tolerate before switching over to Index. n is the number of bytes processed so far.": on amd64: (n + 16) / 8. (LAID: no walk: one application.) -/
theorem Tryz.bytealg_Cutover (n : Int) (h0 : 0 ≤ n) (h1 : n < 4611686018427387904) (w : World) :
    Calls Tryz.prog 149 #[.int .i64 n] w fun e w' => e = .returned (.int .i64 ((n + 16) / 8)) ∧ w' = w := Any.bytealg_Cutover Tryz.lays224 n h0 h1 w
def Tryz.lays152_ren : Go.Shelf.Ren := ⟨fun | 152 => 141 | 137 => 147 | 119 => 148 | 224 => 149 | 225 => 150 | 217 => 152 | 266 => 153 | n => n, fun | 9 => 9 | 21 => 21 | 3 => 3 | 4 => 4 | 5 => 5 | 0 => 0 | 46 => 53 | n => n, fun | n => n⟩
theorem Tryz.lays152 : Go.Proofs.Lays.n152 Tryz.prog Tryz.lays152_ren := {
  mixed := by kernel_rfl
  f119 := Tryz.func148.trans (congrArg some (by kernel_rfl))
  f137 := Tryz.func147.trans (congrArg some (by kernel_rfl))
  f152 := Tryz.func141.trans (congrArg some (by kernel_rfl))
  f217 := Tryz.func152.trans (congrArg some (by kernel_rfl))
  f224 := Tryz.func149.trans (congrArg some (by kernel_rfl))
  f225 := Tryz.func150.trans (congrArg some (by kernel_rfl))
  f266 := Tryz.func153.trans (congrArg some (by kernel_rfl))
  t0 := Tryz.underlying0
  a0 := Tryz.isAgg0
  z0 := Tryz.sizeOf0
  v0 := Tryz.zeroValue0
  t3 := Tryz.underlying3
  a3 := Tryz.isAgg3
  z3 := Tryz.sizeOf3
  v3 := Tryz.zeroValue3
  t4 := Tryz.underlying4
  a4 := Tryz.isAgg4
  z4 := Tryz.sizeOf4
  v4 := Tryz.zeroValue4
  t5 := Tryz.underlying5
  a5 := Tryz.isAgg5
  z5 := Tryz.sizeOf5
  v5 := Tryz.zeroValue5
  t9 := Tryz.underlying9
  a9 := Tryz.isAgg9
  z9 := Tryz.sizeOf9
  v9 := Tryz.zeroValue9
  t21 := Tryz.underlying21
  a21 := Tryz.isAgg21
  z21 := Tryz.sizeOf21
  v21 := Tryz.zeroValue21
  t46 := Tryz.underlying53
  a46 := Tryz.isAgg53
  z46 := Tryz.sizeOf53
  v46 := Tryz.zeroValue53 }
open Go.RowKit Go.Lib in
theorem Tryz.strings_IndexRune_ascii (s : ByteArray) (r : Int) (w : World) (h0 : 0 ≤ r) (h1 : r < 128) :
    Calls Tryz.prog 141 #[.string s, .int .i32 r] w fun e w' => e = .returned (.int .i64 (Lib.indexByte s.data.toList r.toNat.toUInt8)) ∧ w' = w := Any.strings_IndexRune_ascii Tryz.lays152 s r w h0 h1
def Tryz.laysNm237_ren : Go.Shelf.Ren := ⟨fun | 37 => 140 | n => n, fun | 3 => 3 | 4 => 4 | n => n, fun | n => n⟩
theorem Tryz.laysNm237 : Go.Proofs.Lays2.n37 Tryz.prog Tryz.laysNm237_ren := {
  mixed := by kernel_rfl
  f37 := Tryz.func140.trans (congrArg some (by kernel_rfl))
  t3 := Tryz.underlying3
  a3 := Tryz.isAgg3
  z3 := Tryz.sizeOf3
  v3 := Tryz.zeroValue3
  t4 := Tryz.underlying4
  a4 := Tryz.isAgg4
  z4 := Tryz.sizeOf4
  v4 := Tryz.zeroValue4 }
open Go.RowKit Go.Lib in
/-- cmp.isNaN[int]: 'x != x': false. (LAID: no walk: one application.) -/
theorem Tryz.cmp_isNaN_int2 (x : Int) (w : World) :
    Calls Tryz.prog 140 #[.int .i64 x] w fun e w' => e = .returned (.bool false) ∧ w' = w := Any.cmp_isNaN_int2 Tryz.laysNm237 x w
end Go.Proofs
/-
  strings.IndexRune of a rune of two bytes or more in the signs of a name: -1.
-/
namespace Go.Proofs.YtdnbclhidpkpgaaGreat
set_option linter.unusedVariables false
set_option linter.unusedSimpArgs false
open Go.RowKit
def signs : ByteArray := ⟨#[97, 98, 99, 100, 101, 102, 103, 104, 105, 106, 107, 108, 109, 110, 111, 112, 113, 114, 115, 116, 117, 118, 119, 120, 121, 122, 48, 49, 50, 51, 52, 53, 54, 55, 56, 57]⟩
theorem ixb_none : ∀ (l : List UInt8) (c : UInt8), (∀ b ∈ l, b ≠ c) → Lib.indexByte l c = -1
  | [], _, _ => rfl
  | b :: l, c, h => by
    have h1 : (b == c) = false := by have := h b (by simp); simpa using this
    have h2 := ixb_none l c (fun x hx => h x (by simp [hx]))
    simp [Lib.indexByte, h1, h2]
theorem sign_small (b : UInt8) (h : b ∈ signs.data.toList) : b.toNat < 128 := by
  have : ∀ b ∈ signs.data.toList, b.toNat < 128 := by decide
  exact this b h
set_option maxRecDepth 1000000 in
set_option maxHeartbeats 4000000 in
theorem ixr_wide (w : World) (r : Nat) (h1 : 128 ≤ r) (hv : r < 55296 ∨ 57343 < r ∧ r ≤ 1114111) (hr : ¬ r = 65533) : Calls Tryz.prog 141 #[.string signs, .int .i32 (r : Int)] w fun e w' => e = .returned (.int .i64 (-1)) ∧ Mod none_ w w' := by
  have hsz : signs.size = 36 := rfl
  have hsg := sign_small
  generalize signs = sg at *
  have hok : validRune (r : Int) = true := by simp only [validRune, decide_eq_true_eq]; omega
  obtain ⟨g1, g2, g3⟩ := encode_facts (r : Int) (by rw [validRune_eq]; exact hok) (by omega)
  have hvr := fun W => Tryz.utf8_ValidRune (r : Int) W
  rw [show Lib.validRune (r : Int) = true from hok] at hvr
  obtain ⟨rs, hrs⟩ : ∃ rs, Utf8.encode (r : Int) = rs := ⟨_, rfl⟩
  rw [hrs] at g1 g2 g3
  obtain ⟨m, hm⟩ : ∃ m, rs.size = m + 1 := ⟨rs.size - 1, by omega⟩
  have hm1 : 1 ≤ m ∧ m ≤ 3 := by omega
  have hml : m < rs.size := by omega
  have hmg : m < sg.size := by omega
  have hwm : wrap64 (m : Int) = (m : Int) := IntWalk.wrap64_in _ ⟨by omega, by omega⟩
  have hlast : 128 ≤ (rs[m]'hml).toNat := by
    have := g3 (by omega)
    have e : rs.size - 1 = m := by omega
    simpa only [e] using this
  have hst : ∀ b ∈ (sg.extract (m+1) sg.size).data.toList, b ≠ rs[m]'hml := fun b hb e => by
    have := hsg b (mem_extract hb)
    rw [e] at this; omega
  have hfst : (sg[m]'hmg).toNat < 128 := hsg _ (Array.getElem_mem_toList (xs := sg.data) hmg)
  have i1 : ∀ W, (Instr.index 9 (.string sg) (.int .i64 (m : Int))).run Tryz.prog W = .ok (.int .u8 ((sg[m]'hmg).toNat : Int)) W := fun W => by
    rw [run_index_string W _ sg .i64 m Tryz.underlying9, dif_pos (by omega)]
    rfl
  have i2 : ∀ W, (Instr.index 9 (.string rs) (.int .i64 (m : Int))).run Tryz.prog W = .ok (.int .u8 ((rs[m]'hml).toNat : Int)) W := fun W => by
    rw [run_index_string W _ rs .i64 m Tryz.underlying9, dif_pos (by omega)]
    rfl
  have i3 : ∀ W, (Instr.slice 9 (.string sg) (some (.int .i64 ((m : Int) + 1))) none none).run Tryz.prog W = .ok (.string (sg.extract (m+1) sg.size)) W := fun W => by
    rw [run_slice_string_l W _ sg Tryz.underlying9 .i64 ((m:Int)+1) (by omega) (by omega)]
    rfl
  have i6 : ∀ W, (Instr.sliceAt 9 (.string sg) (some (.int .i64 ((m : Int) + 1))) none none).run Tryz.prog W = .ok (.string (sg.extract (m+1) sg.size)) W := fun W => by
    rw [run_sliceAt_string W _ _ _ _ _ Tryz.underlying9, i3 W]
  have i4 : ∀ W, Calls Tryz.prog 147 #[.string (sg.extract (m+1) sg.size), .int .u8 ((rs[m]'hml).toNat : Int)] W fun e w' => e = .returned (.int .i64 (-1)) ∧ w' = W := fun W => by
    have := Tryz.strings_IndexByte (sg.extract (m+1) sg.size) ((rs[m]'hml).toNat : Int) W
    rw [show (((rs[m]'hml).toNat : Int).toNat).toUInt8 = rs[m]'hml by simp, ixb_none _ _ hst] at this
    exact this
  have i5 : (((sg[m]'hmg).toNat : Int) == ((rs[m]'hml).toNat : Int)) = false := by simp; omega
  generalize ((rs[m]'hml).toNat : Int) = c at *
  generalize ((sg[m]'hmg).toNat : Int) = d at *
  generalize sg.extract (m+1) sg.size = st at *
  replace hok := Lib.hid hok
  replace hvr := Lib.hid hvr
  replace hv := Lib.hid hv
  replace g1 := Lib.hid g1
  replace g2 := Lib.hid g2
  replace g3 := Lib.hid g3
  replace hsg := Lib.hid hsg
  replace hrs := Lib.hid hrs
  replace hm := Lib.hid hm
  replace hm1 := Lib.hid hm1
  replace hsz := Lib.hid hsz
  replace hml := Lib.hid hml
  replace hmg := Lib.hid hmg
  replace hwm := Lib.hid hwm
  replace hlast := Lib.hid hlast
  replace hst := Lib.hid hst
  replace hfst := Lib.hid hfst
  replace i1 := Lib.hid i1
  replace i2 := Lib.hid i2
  replace i3 := Lib.hid i3
  replace i4 := Lib.hid i4
  replace i5 := Lib.hid i5
  replace i6 := Lib.hid i6
  go_enter Tryz.func141, Tryz.ntmps141
  go_wp2_with (go_step3)
  refine (hvr.out w).mono ?_
  rintro e w1 ⟨rfl, rfl⟩
  dsimp only
  have hm := hm.out
  have hm1 := hm1.out
  have hsz := hsz.out
  have hwm := hwm.out
  go_wp2_with (go_step3)
  rename_i K0 a0
  clear a0
  rw [hrs.out]
  rw [hrs.out] at *
  go_loopw [9, 10] (fun x y wr => x = .int .i64 (m : Int) ∧ y = .int .i64 0 ∧ w1 = wr) (fun _ _ _ => 0)
  case atStart =>
    refine ⟨?_, rfl, rfl⟩
    rw [hm, show (((m + 1 : Nat) : Int) - 1) = (m : Int) by omega, hwm]
  case round =>
    obtain ⟨rfl, rfl, rfl⟩ := hrel
    replace i1 := i1.out
    replace i2 := i2.out
    replace i3 := i3.out
    replace i6 := i6.out
    replace i5 := i5.out
    have i7 : IntKind.i64.wrap ((m : Int) + 1) = (m : Int) + 1 := wrap_small _ (by omega) (by omega)
    have i8 : ∀ W, (Instr.sliceAt 9 (.string sg) (some (.int .i64 (IntKind.i64.wrap ((m : Int) + 1)))) none none).run Tryz.prog W = .ok (.string st) W := fun W => by rw [i7]; exact i6 W
    have i9 : ∀ W, (Instr.slice 9 (.string sg) (some (.int .i64 (IntKind.i64.wrap ((m : Int) + 1)))) none none).run Tryz.prog W = .ok (.string st) W := fun W => by rw [i7]; exact i3 W
    clear i7
    go_wp2_with (first | go_step3 | (go_quiet ((go_at_call 147; exact (i4.out _).mono (fun e w' h => ⟨h.1, _, h.2⟩)))))
    rw [Exit.noGoto_ret]
    go_ret
    exact ⟨rfl, (Mod.refl none_ w1).drewN _⟩
end Go.Proofs.YtdnbclhidpkpgaaGreat
/-
  strings.IndexRune of the rune that stands for none, in the signs of a name: -1.
-/
namespace Go.Proofs.YtdnbclhidpkpgaaGreat
set_option linter.unusedVariables false
set_option linter.unusedSimpArgs false
open Go.RowKit
set_option maxRecDepth 1000000 in
set_option maxHeartbeats 4000000 in
theorem ixr_err (w : World) : Calls Tryz.prog 141 #[.string signs, .int .i32 65533] w fun e w' => e = .returned (.int .i64 (-1)) ∧ Mod none_ w w' := by
  have hsz : signs.size = 36 := rfl
  have hsg := sign_small
  generalize signs = sg at *
  replace hsz := Lib.hid hsz
  replace hsg := Lib.hid hsg
  go_enter Tryz.func141, Tryz.ntmps141
  go_wp2_with fail
  go_loopw [] (fun wr => ∃ pos : Nat, wr.heap[w.heap.size]? = some (.stringIter sg pos) ∧ Mod none_ w wr ∧ pos ≤ sg.size) (fun wr => sg.size - wr.iterPos w.heap.size)
  case atStart => exact ⟨0, World.iter_heap w sg 0, (Mod.refl none_ w).alloc _, by omega⟩
  case round =>
    obtain ⟨pos, hit, hm, hp⟩ := hrel
    have hs2 : w.heap.size < wr.heap.size := (Array.getElem?_eq_some_iff.1 hit).1
    by_cases hlt : pos < sg.size
    · have hnx : ∀ ty, (Instr.next (.pointer (some ⟨w.heap.size, 0, none⟩)) true ty).run Tryz.prog wr = _ := fun ty => Lib.run_next_any_at wr w.heap.size sg pos ty hit hlt
      have hm2 : Mod none_ w (wr.iterAt w.heap.size sg (pos + (Utf8.decode sg pos).2)) := Mod.of_below (Lib.below_iterAt hm.below0 (k := w.heap.size) (by omega) sg _)
      have hit2 := Lib.iterAt_heap wr w.heap.size sg pos (pos + (Utf8.decode sg pos).2) hit
      have hb : (sg[pos]'hlt).toNat < 128 := hsg.out _ (Array.getElem_mem_toList (xs := sg.data) hlt)
      rw [decode_ascii sg pos hlt hb] at hnx hm2 hit2
      have hne : (((sg[pos]'hlt).toNat : Int) == 65533) = false := by simp; omega
      generalize (sg[pos]'hlt).toNat = v at *
      replace hm := Lib.hid hm
      replace hit := Lib.hid hit
      replace hm2 := Lib.hid hm2
      replace hit2 := Lib.hid hit2
      replace hb := Lib.hid hb
      go_wp2_with fail
      go_roundw
      case rel => exact ⟨pos + 1, hit2.out, hm2.out, by omega⟩
      case measure => simp only [World.iterPos, hit2.out, hit.out]; omega
    · have hnx : ∀ ty, (Instr.next (.pointer (some ⟨w.heap.size, 0, none⟩)) true ty).run Tryz.prog wr = _ := fun ty => Lib.run_next_end_at wr w.heap.size sg pos ty hit hlt
      replace hm := Lib.hid hm
      replace hit := Lib.hid hit
      go_wp2_with fail
      go_ret
      exact ⟨rfl, hm.out⟩
theorem ixr_any (w : World) (r : Nat) (h1 : 128 ≤ r) (hv : r < 55296 ∨ 57343 < r ∧ r ≤ 1114111) : Calls Tryz.prog 141 #[.string signs, .int .i32 (r : Int)] w fun e w' => e = .returned (.int .i64 (-1)) ∧ Mod none_ w w' := by
  by_cases h : r = 65533
  · subst h; exact ixr_err w
  · exact ixr_wide w r h1 hv h
end Go.Proofs.YtdnbclhidpkpgaaGreat
/-
  The contracts of chart.Name and of the reference's Name.
-/
namespace Go.Proofs.YtdnbclhidpkpgaaGreat
set_option linter.unusedVariables false
set_option linter.unusedSimpArgs false
open Go.RowKit
def isSign (b : UInt8) : Bool := (97 ≤ b && b ≤ 122) || (48 ≤ b && b ≤ 57)
def nameB (l : List UInt8) : Bool := l.all isSign && decide (0 < l.length) && decide (l.length ≤ 8)
theorem sign_ix_nat : ∀ n, n < 256 → (decide (Lib.indexByte signs.data.toList n.toUInt8 < 0)) = !isSign n.toUInt8 := by decide +kernel
theorem sign_ix (b : UInt8) : (decide (Lib.indexByte signs.data.toList b < 0)) = !isSign b := by
  have := sign_ix_nat b.toNat b.toNat_lt
  rwa [show b.toNat.toUInt8 = b by simp] at this
theorem wide_not_sign (b : UInt8) (h : 128 ≤ b.toNat) : isSign b = false := by
  unfold isSign
  have h1 : ¬ b ≤ 122 := by rw [UInt8.le_iff_toNat_le]; show ¬ b.toNat ≤ 122; omega
  have h2 : ¬ b ≤ 57 := by rw [UInt8.le_iff_toNat_le]; show ¬ b.toNat ≤ 57; omega
  simp [h1, h2]
theorem name_no (s : ByteArray) (i : Nat) (h : i < s.size) (hs : isSign s[i] = false) : nameB s.data.toList = false := by
  unfold nameB
  have : s.data.toList.all isSign = false := by
    rw [List.all_eq_false]
    exact ⟨s[i], Array.getElem_mem_toList (xs := s.data) h, by rw [hs]; simp⟩
  rw [this]; rfl
theorem name_all (s : ByteArray) (h : ∀ i (h : i < s.size), isSign s[i] = true) : nameB s.data.toList = (decide (0 < s.size) && decide (s.size ≤ 8)) := by
  unfold nameB
  have e : s.data.toList.length = s.size := rfl
  have : s.data.toList.all isSign = true := by
    rw [List.all_eq_true]
    intro b hb
    obtain ⟨i, hi, rfl⟩ := List.getElem_of_mem hb
    exact h i hi
  rw [this, e, Bool.true_and]
theorem toList_empty (s : ByteArray) : s.toList.isEmpty = decide (s.size = 0) := by
  show (txt s.data.toList).toList.isEmpty = _
  rw [txt_toList]
  have e : s.data.toList.length = s.size := rfl
  rw [← e]
  cases s.data.toList <;> simp
theorem sget (s : ByteArray) (i : Nat) (h : i < s.size) : (s.get! i) = s[i] := by
  have := get_at s i h
  simpa using this
set_option maxRecDepth 1000000 in
set_option maxHeartbeats 2000000 in
theorem name_ok (w : World) (s : ByteArray) : Calls Tryz.prog 113 #[.string s] w fun e w' => e = .returned (.bool (nameB s.data.toList)) ∧ Mod none_ w w' := by
  have sg : (⟨#[97, 98, 99, 100, 101, 102, 103, 104, 105, 106, 107, 108, 109, 110, 111, 112, 113, 114, 115, 116, 117, 118, 119, 120, 121, 122, 48, 49, 50, 51, 52, 53, 54, 55, 56, 57]⟩ : ByteArray) = signs := rfl
  have ca := Lib.hid (fun (W : World) (r : Nat) (h : r < 128) => Tryz.strings_IndexRune_ascii signs (r : Int) W (by omega) (by omega))
  have cw := Lib.hid (fun (W : World) (r : Nat) h1 h2 => ixr_any W r h1 h2)
  go_enter Tryz.func113, Tryz.ntmps113
  go_wp2_with fail
  go_loopw [] (fun wr => ∃ pos : Nat, wr.heap[w.heap.size]? = some (.stringIter s pos) ∧ Mod none_ w wr ∧ pos ≤ s.size ∧ ∀ i (h : i < s.size), i < pos → isSign s[i] = true) (fun wr => s.size - wr.iterPos w.heap.size)
  case atStart =>
    refine ⟨0, World.iter_heap w s 0, ?_, by omega, fun i _ h => by omega⟩
    exact (Mod.refl none_ w).alloc _
  case round =>
    obtain ⟨pos, hit, hm, hp, hall⟩ := hrel
    have hsz : w.heap.size < wr.heap.size := (Array.getElem?_eq_some_iff.1 hit).1
    by_cases hlt : pos < s.size
    · have hnx : ∀ ty, (Instr.next (.pointer (some ⟨w.heap.size, 0, none⟩)) true ty).run Tryz.prog wr = _ := fun ty => Lib.run_next_any_at wr w.heap.size s pos ty hit hlt
      have hm2 : Mod none_ w (wr.iterAt w.heap.size s (pos + (Utf8.decode s pos).2)) := Mod.of_below (Lib.below_iterAt hm.below0 (k := w.heap.size) (by omega) s _)
      have hit2 := Lib.iterAt_heap wr w.heap.size s pos (pos + (Utf8.decode s pos).2) hit
      by_cases hb : (s[pos]'hlt).toNat < 128
      · rw [decode_ascii s pos hlt hb] at hnx hm2 hit2
        have hix := sign_ix (s[pos]'hlt)
        have hc := Lib.hid (fun W => ca.out W (s[pos]'hlt).toNat hb)
        have eb : (((s[pos]'hlt).toNat : Int).toNat).toUInt8 = s[pos]'hlt := by simp
        rw [eb] at hc
        cases hs : isSign (s[pos]'hlt) with
        | true =>
          rw [hs] at hix
          have hix2 : ¬ (Lib.indexByte signs.data.toList (s[pos]'hlt) < 0) := by simpa using hix
          have hnext : ∀ i (h : i < s.size), i < pos + 1 → isSign s[i] = true := by
            intro i h h1
            by_cases e : i = pos
            · subst e; exact hs
            · exact hall i h (by omega)
          generalize Lib.indexByte signs.data.toList (s[pos]'hlt) = v at *
          unfold signs at hc
          replace hall := Lib.hid hall
          replace hm := Lib.hid hm
          replace hit := Lib.hid hit
          replace hm2 := Lib.hid hm2
          replace hit2 := Lib.hid hit2
          replace hix := Lib.hid hix
          replace hnext := Lib.hid hnext
          replace hs := Lib.hid hs
          replace hb := Lib.hid hb
          replace eb := Lib.hid eb
          go_wp2_with fail
          refine (hc.out _).mono ?_
          rintro e w1 ⟨rfl, rfl⟩
          dsimp only
          go_wp2_with fail
          go_roundw
          case rel => exact ⟨pos + 1, hit2.out, hm2.out, by omega, hnext.out⟩
          case measure => simp only [World.iterPos, hit2.out, hit.out]; omega
        | false =>
          rw [hs] at hix
          have hix2 : Lib.indexByte signs.data.toList (s[pos]'hlt) < 0 := by simpa using hix
          have hno := name_no s pos hlt hs
          generalize Lib.indexByte signs.data.toList (s[pos]'hlt) = v at *
          unfold signs at hc
          replace hall := Lib.hid hall
          replace hm := Lib.hid hm
          replace hit := Lib.hid hit
          replace hm2 := Lib.hid hm2
          replace hit2 := Lib.hid hit2
          replace hix := Lib.hid hix
          replace hs := Lib.hid hs
          replace hb := Lib.hid hb
          replace eb := Lib.hid eb
          go_wp2_with fail
          refine (hc.out _).mono ?_
          rintro e w1 ⟨rfl, rfl⟩
          dsimp only
          go_wp2_with fail
          go_ret
          refine ⟨?_, hm2.out⟩
          rw [hno]; rfl
      · have hd := decode_high s pos hlt (by omega)
        have hdv : (Utf8.decode s pos).1 < 55296 ∨ (57343 < (Utf8.decode s pos).1 ∧ (Utf8.decode s pos).1 ≤ 1114111) := by
          rw [Lib.decode_at]
          exact Lib.decodeN_valid _ _ _ _ _ (UInt8.toNat_lt _)
        have hc := Lib.hid (fun W => cw.out W _ hd.1 hdv)
        have hno := name_no s pos hlt (wide_not_sign _ (by omega))
        generalize (Utf8.decode s pos).1 = r at *
        generalize (Utf8.decode s pos).2 = k at *
        unfold signs at hc
        replace hall := Lib.hid hall
        replace hm := Lib.hid hm
        replace hit := Lib.hid hit
        replace hm2 := Lib.hid hm2
        replace hit2 := Lib.hid hit2
        replace hd := Lib.hid hd
        replace hdv := Lib.hid hdv
        replace hb := Lib.hid hb
        go_wp2_with fail
        refine (hc.out _).mono ?_
        rintro e w1 ⟨rfl, hm3⟩
        dsimp only
        replace hm3 := Lib.hid hm3
        go_wp2_with fail
        go_ret
        refine ⟨?_, hm2.out.then hm3.out (fun _ _ h => h)⟩
        rw [hno]; rfl
    · have hnx : ∀ ty, (Instr.next (.pointer (some ⟨w.heap.size, 0, none⟩)) true ty).run Tryz.prog wr = _ := fun ty => Lib.run_next_end_at wr w.heap.size s pos ty hit hlt
      have hres := name_all s (fun i h => hall i h (by omega))
      have he := toList_empty s
      by_cases hz : s.size = 0
      · rw [decide_eq_true hz] at he
        replace hall := Lib.hid hall
        replace hm := Lib.hid hm
        replace hit := Lib.hid hit
        go_wp2_with fail
        go_ret
        refine ⟨?_, hm.out⟩
        rw [hres, hz]; rfl
      · rw [decide_eq_false hz] at he
        replace hall := Lib.hid hall
        replace hm := Lib.hid hm
        replace hit := Lib.hid hit
        go_wp2_with fail
        go_ret
        refine ⟨?_, hm.out⟩
        rw [hres, decide_eq_true (show 0 < s.size by omega), Bool.true_and]
        show Ending.returned (.bool (decide ((s.size : Int) ≤ 8))) = _
        congr 2
        exact decide_eq_decide.2 (by omega)
end Go.Proofs.YtdnbclhidpkpgaaGreat
/-
  A map from texts to truths, as the set of those that were put.
-/
namespace Go.Proofs.YtdnbclhidpkpgaaGreat
set_option linter.unusedVariables false
set_option linter.unusedSimpArgs false
open Go.RowKit
theorem find_insL_no {x : NameV} {p : NameV → Bool} (h : p x = false) : ∀ L : List NameV, (insL x L).find? p = L.find? p
  | [] => by simp [insL, h]
  | y :: L => by
    unfold insL
    split
    · rw [List.find?_cons, h]
    · rw [List.find?_cons, List.find?_cons, find_insL_no h L]
theorem find_insL_yes {x : NameV} {p : NameV → Bool} (h : p x = true) : ∀ L : List NameV, (∀ y ∈ L, p y = false) → (insL x L).find? p = some x
  | [], _ => by simp [insL, h]
  | y :: L, hL => by
    unfold insL
    split
    · rw [List.find?_cons, h]
    · rw [List.find?_cons, hL y (by simp), find_insL_yes h L fun z hz => hL z (by simp [hz])]
theorem findL_put (L : List NameV) (s : List UInt8) (v : Value) (s' : List UInt8) : findL (putL s v L) s' = if s' = s then some v else findL L s' := by
  unfold findL putL
  by_cases h : s' = s
  · subst h
    rw [if_pos rfl, find_insL_yes (by simp)]
    · rfl
    · intro y hy
      have := (List.mem_filter.1 hy).2
      simpa using this
  · rw [if_neg h, find_insL_no (by simp; exact fun e => h e.symm)]
    congr 1
    induction L with
    | nil => rfl
    | cons y L ih =>
      rw [List.filter_cons]
      by_cases e : y.1 = s
      · rw [if_neg (by simp [e]), List.find?_cons, ih, show (y.1 == s') = false by simp; rw [e]; exact fun e2 => h e2.symm]
      · rw [if_pos (by simp [e]), List.find?_cons, List.find?_cons, ih]
theorem insL_length (x : NameV) : ∀ L : List NameV, (insL x L).length = L.length + 1
  | [] => rfl
  | y :: L => by
    unfold insL
    split
    · rfl
    · rw [List.length_cons, insL_length x L, List.length_cons]
theorem putL_length (L : List NameV) (s : List UInt8) (v : Value) : (putL s v L).length ≤ L.length + 1 := by
  unfold putL
  rw [insL_length]
  have := List.length_filter_le (fun p : NameV => !(p.1 == s)) L
  omega
def SetAt (w : World) (b : Nat) (N : List (List UInt8)) : Prop := ∃ L, MapAt w 9 b L ∧ L.length ≤ N.length ∧ ∀ s, (findL L s).getD (.bool false) = .bool (decide (s ∈ N))
theorem SetAt.made (w : World) : SetAt (w.alloc (.map #[] 0)) w.heap.size [] := ⟨[], MapAt.made w _, Nat.le_refl _, fun s => by simp [findL]⟩
theorem SetAt.mod {F : Nat → Prop} {w w' : World} {b : Nat} {N : List (List UInt8)} (h : SetAt w b N) (hm : Mod F w w') (hb : ¬ F b) : SetAt w' b N := by
  obtain ⟨L, h1, h2, h3⟩ := h
  exact ⟨L, h1.mod hm hb, h2, h3⟩
theorem SetAt.lt {w : World} {b : Nat} {N : List (List UInt8)} (h : SetAt w b N) : b < w.heap.size := by
  obtain ⟨L, h1, _⟩ := h
  exact h1.lt
theorem set_put {L : List NameV} {N : List (List UInt8)} (h : ∀ s, (findL L s).getD (.bool false) = .bool (decide (s ∈ N))) (x : List UInt8) : ∀ s, (findL (putL x (.bool true) L) s).getD (.bool false) = .bool (decide (s ∈ N ++ [x])) := by
  intro s
  rw [findL_put]
  by_cases e : s = x
  · rw [if_pos e]; simp [e]
  · rw [if_neg e, h s]; simp [e]
end Go.Proofs.YtdnbclhidpkpgaaGreat
/-
  order.legs, period, held.
-/
namespace Go.Proofs.YtdnbclhidpkpgaaGreat
set_option linter.unusedVariables false
set_option linter.unusedSimpArgs false
open Go.RowKit
def okLeg (l : Lg) : Bool := nameB l.n && !(l.x == 0)
def legsB (ls : List Lg) : Bool := ls.all okLeg && decide ((ls.map fun l => l.n).Nodup) && decide (2 ≤ ls.length) && decide (ls.length ≤ 6)
theorem legsB_bad {ls : List Lg} {l : Lg} (h : l ∈ ls) (h0 : okLeg l = false) : legsB ls = false := by
  unfold legsB
  have : ls.all okLeg = false := by rw [List.all_eq_false]; exact ⟨l, h, by rw [h0]; simp⟩
  rw [this]; rfl
theorem legsB_two {ls : List Lg} {j : Nat} {l : Lg} (h : ls[j]? = some l) (h0 : l.n ∈ (ls.take j).map fun l => l.n) : legsB ls = false := by
  unfold legsB
  have : decide ((ls.map fun l => l.n).Nodup) = false := by
    rw [decide_eq_false_iff_not]
    intro hn
    have hj : j < ls.length := by
      rcases Nat.lt_or_ge j ls.length with h1 | h1
      · exact h1
      · rw [List.getElem?_eq_none h1] at h; cases h
    rw [List.getElem?_eq_getElem hj] at h
    injection h with h
    have e : ls = ls.take j ++ ls[j] :: ls.drop (j + 1) := by rw [← List.drop_eq_getElem_cons hj, List.take_append_drop]
    rw [e, List.map_append, List.nodup_append] at hn
    exact hn.2.2 l.n h0 l.n (by rw [h]; simp) rfl
  rw [this, Bool.and_false]; rfl
set_option maxRecDepth 100000 in
theorem period_ok (w : World) (x : Int) : Calls Tryz.prog 119 #[.int .i64 x] w fun e w' => e = .returned (.bool (decide (1 ≤ x ∧ x ≤ 1000))) ∧ w = w' := by
  go_enter Tryz.func119, Tryz.ntmps119
  go_wp2_with fail
  all_goals
    go_ret
    first | (simp_all; done) | (simp; omega)
set_option maxRecDepth 100000 in
theorem held_ok (w : World) (x : Int) : Calls Tryz.prog 124 #[.int .i64 x] w fun e w' => e = .returned (.bool (decide (1 ≤ x ∧ x ≤ 9999))) ∧ w = w' := by
  go_enter Tryz.func124, Tryz.ntmps124
  go_wp2_with fail
  all_goals
    go_ret
    first | (simp_all; done) | (simp; omega)
set_option maxRecDepth 100000 in
theorem zeroB_run (W : World) : (zeroValue 4).run Tryz.prog W = .ok (.bool false) W := by rfl
set_option maxRecDepth 100000 in
set_option maxHeartbeats 4000000 in
theorem legs_ok (w : World) (A : Option Addr) (n c : Nat) (ls : List Lg) (h : RdL w A n ls) (hn : n ≤ 140737488355328) (hz : ∀ l ∈ ls, (txt l.n).size ≤ maxLen) :
    Calls Tryz.prog 118 #[.slice A n c] w fun e w' => e = .returned (.bool (legsB ls)) ∧ Mod none_ w w' := by
  have hl := h.len
  have hmk := fun W => run_makeMap (P := Tryz.prog) 163 W
  have cn := Lib.hid (fun W s => name_ok W s)
  replace h := Lib.hid h
  replace hz := Lib.hid hz
  replace hl := Lib.hid hl
  go_enter Tryz.func118, Tryz.ntmps118
  go_wp2_with fail
  have hw0 : w.heap.size ≤ (w.alloc (.map #[] 0)).heap.size := by simp
  go_loopg [9] n (fun k x wr => ∃ j : Nat, x = .int .i64 j ∧ j + k = n ∧ SetAt wr w.heap.size ((ls.take j).map fun l => l.n) ∧ (∀ l ∈ ls.take j, okLeg l = true) ∧ ((ls.take j).map fun l => l.n).Nodup ∧ Mod none_ w wr)
  case atStart => exact ⟨0, rfl, by omega, SetAt.made w, (fun l h => by cases h), List.nodup_nil, (Mod.refl _ _).alloc _⟩
  case round =>
    obtain ⟨j, rfl, hj, hM, hall, hnd, hm⟩ := hrel
    by_cases hlt : j < n
    · obtain ⟨g, o, l, rfl, hmem, hjl, y1, y2⟩ := rdl_get (h.out.mod0 hm) hlt
      have hlok := hz.out l hmem
      have htk : ls.take (j + 1) = ls.take j ++ [l] := by
        have hjlt : j < ls.length := by rw [hl.out]; exact hlt
        rw [List.getElem?_eq_getElem hjlt] at hjl
        injection hjl with hjl
        rw [List.take_succ_eq_append_getElem hjlt, hjl]
      have hno : okLeg l = false → legsB ls = false := legsB_bad hmem
      have cname := Lib.hid (fun W => cn.out W (txt l.n))
      rw [show (txt l.n).data.toList = l.n from rfl] at cname
      have hbl := hM.lt
      obtain ⟨L, hL, hLl, hLs⟩ := hM
      have hlen : ((ls.take j).map fun l => l.n).length ≤ n := by rw [List.length_map, List.length_take]; omega
      by_cases hseen : l.n ∈ (ls.take j).map fun l => l.n
      · have hr : Hid (legsB ls = false) := Lib.hid (legsB_two hjl hseen)
        have hlk : (findL L l.n).getD (.bool false) = .bool true := by rw [hLs, decide_eq_true hseen]
        clear hno
        replace hL := Lib.hid hL
        replace hLs := Lib.hid hLs
        replace hall := Lib.hid hall
        replace hnd := Lib.hid hnd
        replace hm := Lib.hid hm
        replace hmem := Lib.hid hmem
        replace hjl := Lib.hid hjl
        replace hlok := Lib.hid hlok
        replace htk := Lib.hid htk
        replace hseen := Lib.hid hseen
        replace hlk := Lib.hid hlk
        go_wp2_with (refine map_look _ rfl (.tmp 13) (.tmp 15) _ rfl 9 4 Tryz.underlying163 Tryz.underlying9 (zeroB_run _) w.heap.size _ rfl (hL.out.alloc _) (txt l.n) hlok.out rfl ?_; rw [show (txt l.n).data.toList = l.n from rfl, hlk.out])
        go_ret
        exact ⟨by rw [hr.out]; rfl, hm.out.alloc _⟩
      · have hlk : (findL L l.n).getD (.bool false) = .bool false := by rw [hLs, decide_eq_false hseen]
        cases hb : nameB l.n with
        | false =>
          rw [hb] at cname
          have hr := Lib.hid (hno (by unfold okLeg; rw [hb]; rfl))
          clear hno
          replace hL := Lib.hid hL
          replace hLs := Lib.hid hLs
          replace hall := Lib.hid hall
          replace hnd := Lib.hid hnd
          replace hm := Lib.hid hm
          replace hmem := Lib.hid hmem
          replace hjl := Lib.hid hjl
          replace hlok := Lib.hid hlok
          replace htk := Lib.hid htk
          replace hseen := Lib.hid hseen
          replace hlk := Lib.hid hlk
          replace hb := Lib.hid hb
          go_wp2_with (refine map_look _ rfl (.tmp 13) (.tmp 15) _ rfl 9 4 Tryz.underlying163 Tryz.underlying9 (zeroB_run _) w.heap.size _ rfl (hL.out.alloc _) (txt l.n) hlok.out rfl ?_; rw [show (txt l.n).data.toList = l.n from rfl, hlk.out])
          refine (cname.out _).mono ?_
          rintro e w1 ⟨rfl, hm1⟩
          dsimp only
          have hmm := Lib.hid ((hm.out.alloc _).trans hm1)
          clear hm1
          go_wp2_with fail
          go_ret
          exact ⟨by rw [hr.out]; rfl, hmm.out⟩
        | true =>
          rw [hb] at cname
          by_cases hx0 : l.x = 0
          · have hr := Lib.hid (hno (by unfold okLeg; rw [hb, hx0]; rfl))
            rw [hx0] at y2
            clear hno
            replace hL := Lib.hid hL
            replace hLs := Lib.hid hLs
            replace hall := Lib.hid hall
            replace hnd := Lib.hid hnd
            replace hm := Lib.hid hm
            replace hmem := Lib.hid hmem
            replace hjl := Lib.hid hjl
            replace hlok := Lib.hid hlok
            replace htk := Lib.hid htk
            replace hseen := Lib.hid hseen
            replace hlk := Lib.hid hlk
            replace hb := Lib.hid hb
            replace hx0 := Lib.hid hx0
            go_wp2_with (refine map_look _ rfl (.tmp 13) (.tmp 15) _ rfl 9 4 Tryz.underlying163 Tryz.underlying9 (zeroB_run _) w.heap.size _ rfl (hL.out.alloc _) (txt l.n) hlok.out rfl ?_; rw [show (txt l.n).data.toList = l.n from rfl, hlk.out])
            refine (cname.out _).mono ?_
            rintro e w1 ⟨rfl, hm1⟩
            dsimp only
            have q1 : w1.cell? ⟨wr.heap.size, 1, none⟩ = some (.int .i64 0) := ((Blk.new wr 117 #[.string (txt l.n), .int .i64 0]).mod hm1 (fun h => h)).cell_ rfl
            have hmm := Lib.hid ((hm.out.alloc _).trans hm1)
            clear hm1
            go_wp2_with fail
            go_ret
            exact ⟨by rw [hr.out]; rfl, hmm.out⟩
          · have hx1 : (l.x == 0) = false := by simpa using hx0
            have hyes : okLeg l = true := by unfold okLeg; rw [hb, hx1]; rfl
            clear hno
            replace hL := Lib.hid hL
            replace hLs := Lib.hid hLs
            replace hall := Lib.hid hall
            replace hnd := Lib.hid hnd
            replace hm := Lib.hid hm
            replace hmem := Lib.hid hmem
            replace hjl := Lib.hid hjl
            replace hlok := Lib.hid hlok
            replace htk := Lib.hid htk
            replace hseen := Lib.hid hseen
            replace hlk := Lib.hid hlk
            replace hb := Lib.hid hb
            replace hx0 := Lib.hid hx0
            replace hyes := Lib.hid hyes
            go_wp2_with (refine map_look _ rfl (.tmp 13) (.tmp 15) _ rfl 9 4 Tryz.underlying163 Tryz.underlying9 (zeroB_run _) w.heap.size _ rfl (hL.out.alloc _) (txt l.n) hlok.out rfl ?_; rw [show (txt l.n).data.toList = l.n from rfl, hlk.out])
            refine (cname.out _).mono ?_
            rintro e w1 ⟨rfl, hm1⟩
            dsimp only
            have hB := (Blk.new wr 117 #[.string (txt l.n), .int .i64 l.x]).mod hm1 (fun h => h)
            have q0 : w1.cell? ⟨wr.heap.size, 0, none⟩ = some (.string (txt l.n)) := hB.cell_ rfl
            have q1 : w1.cell? ⟨wr.heap.size, 1, none⟩ = some (.int .i64 l.x) := hB.cell_ rfl
            have hL1 := Lib.hid ((hL.out.alloc _).mod hm1 (fun h => h))
            have hmm := Lib.hid ((hm.out.alloc _).trans hm1)
            clear hm1 hB
            go_wp2_with (refine map_store _ rfl (.tmp 28) (.tmp 30) (.const (.bool true)) _ rfl 9 4 Tryz.underlying163 Tryz.underlying9 w.heap.size _ rfl hL1.out (by simp only [maxLen]; omega) (txt l.n) hlok.out rfl (.bool true) rfl ?_; intro w2 hM2 hm2 hs2; replace hM2 := Lib.hid hM2; replace hm2 := Lib.hid hm2; replace hs2 := Lib.hid hs2)
            go_roundg (gk - 1)
            case measure => omega
            case rel =>
              refine ⟨j + 1, by go_num, by omega, ⟨_, hM2.out, ?_, ?_⟩, ?_, ?_, hmm.out.then hm2.out (fun i hi e => by have e2 : i = w.heap.size := e; omega)⟩
              · rw [htk.out, List.map_append, List.length_append]
                have := putL_length L (txt l.n).data.toList (.bool true)
                simp only [List.map_cons, List.map_nil, List.length_cons, List.length_nil]
                omega
              · rw [htk.out, List.map_append]
                exact set_put hLs.out l.n
              · intro y hy
                rw [htk.out, List.mem_append] at hy
                rcases hy with hy | hy
                · exact hall.out y hy
                · simp at hy; subst hy; exact hyes.out
              · rw [htk.out, List.map_append, List.nodup_append]
                refine ⟨hnd.out, by simp, fun a ha b hb2 e => ?_⟩
                simp at hb2
                subst hb2
                subst e
                exact hseen.out ha
    · obtain rfl : j = n := by omega
      rw [List.take_of_length_le (show ls.length ≤ j by rw [hl.out]; exact Nat.le_refl _)] at hall hnd
      have hr : legsB ls = (decide (2 ≤ j) && decide (j ≤ 6)) := by
        unfold legsB
        rw [List.all_eq_true.2 hall, decide_eq_true hnd, hl.out]; rfl
      replace hM := Lib.hid hM
      replace hall := Lib.hid hall
      replace hnd := Lib.hid hnd
      replace hm := Lib.hid hm
      replace hr := Lib.hid hr
      go_wp2_with fail
      all_goals
        go_ret
        refine ⟨?_, hm.out⟩
        rw [hr.out]
        refine congrArg (fun b => Ending.returned (Value.bool b)) (?_ : (_ : Bool) = _)
        rw [Bool.eq_iff_iff]
        simp
        omega
end Go.Proofs.YtdnbclhidpkpgaaGreat
