import Derived.Test.YtimlfdihodoolaaGreatZp4
import Derived.Test.YtimlfdihodoolaaGreatZp1
import Derived.Lib.DecodeN
import Derived.Lib.QuoteLoop
import Derived.Lib.OthersKept
import Derived.Shelf.Small.Utf8
import Derived.Shelf.Small.Bits
import Derived.Shelf.Small.Strs
import Derived.Shelf.Small.Wraps
import Derived.Shelf.Strconv.Itoa0
import Derived.Shelf.Strings.Search1
import Derived.Shelf.Strings.Runes
import Derived.Ground.Names2Prog
import Derived.Shelf.Slices.SearchI
import Derived.Test.YtimlfdihodoolaaGreatProg
import Derived.Laws.Runes
import Derived.BigQuiet
import Derived.LoopTactic
/-
  order.Same, runner.Same.
-/
namespace Go.Proofs.YtimlfdihodoolaaGreat
set_option linter.unusedVariables false
set_option linter.unusedSimpArgs false
open Go.RowKit
set_option maxRecDepth 100000 in
set_option maxHeartbeats 4000000 in
theorem sameO_ok (w : World) (a b : Od) (L M : SV) (ha : OdM w a L) (hb : OdM w b M) (hL : L.n ≤ 140737488355328) (hM : M.n ≤ 140737488355328) :
    Calls Tryz.prog 68 #[.agg #[.int .i64 a.c, .int .i64 a.s, .int .i64 a.k, .string (txt a.acct), .string (txt a.peer), .int .i64 a.sum, .slice L.a L.n L.c, .int .i64 a.per, .int .i64 a.hold, .string (txt a.note)], .agg #[.int .i64 b.c, .int .i64 b.s, .int .i64 b.k, .string (txt b.acct), .string (txt b.peer), .int .i64 b.sum, .slice M.a M.n M.c, .int .i64 b.per, .int .i64 b.hold, .string (txt b.note)]] w fun e w' => e = .returned (.bool (decide (a = b))) ∧ Mod none_ w w' := by
  have kE := Lib.hid (fun W (h : Mod none_ w W) => eqL_ok W L.a M.a L.n M.n L.c M.c a.legs b.legs (ha.rd.mod0 h) (hb.rd.mod0 h) hL hM)
  have hid := fun W => eql_id W ⟨a.c, a.s⟩ ⟨b.c, b.s⟩
  unfold isV at hid
  replace ha := Lib.hid ha
  replace hb := Lib.hid hb
  obtain ⟨ac, as_, ak, aa, ap, asum, al, aper, ah, an⟩ := a
  obtain ⟨bc, bs_, bk, ba, bp, bsum, bl, bper, bh, bn⟩ := b
  dsimp only at kE hid ⊢
  go_enter Tryz.func68, Tryz.ntmps68
  go_wp2_with fail
  · with_reducible refine (kE.out _ (((Mod.refl none_ w).alloc _).alloc _)).mono ?_
    rintro e w1 ⟨rfl, q, hq⟩
    dsimp only
    have hm : Mod none_ w w1 := by rw [hq]; exact (((Mod.refl none_ w).alloc _).alloc _).drewN _
    replace hm := Lib.hid hm
    replace hq := Lib.hid hq
    go_wp2_with fail
    go_ret
    refine ⟨?_, hm.out⟩
    simp_all
  all_goals
    go_ret
    refine ⟨by simp_all, ((Mod.refl none_ w).alloc _).alloc _⟩
theorem en_eq {a b : En} : a = b ↔ a.none = b.none ∧ a.o = b.o ∧ a.deps = b.deps := by
  cases a; cases b; simp only [En.mk.injEq]; exact ⟨fun ⟨x, y, z⟩ => ⟨y, x, z⟩, fun ⟨x, y, z⟩ => ⟨y, x, z⟩⟩
set_option maxRecDepth 100000 in
set_option maxHeartbeats 4000000 in
theorem sameE_ok (w : World) (a b : En) (L D M E : SV) (ha : EnM w a L D) (hb : EnM w b M E) (hL : L.n ≤ 140737488355328) (hD : D.n ≤ 140737488355328) (hM : M.n ≤ 140737488355328) (hE : E.n ≤ 140737488355328) :
    Calls Tryz.prog 40 #[.agg #[.int .i64 a.o.c, .int .i64 a.o.s, .int .i64 a.o.k, .string (txt a.o.acct), .string (txt a.o.peer), .int .i64 a.o.sum, .slice L.a L.n L.c, .int .i64 a.o.per, .int .i64 a.o.hold, .string (txt a.o.note), .bool a.none, .slice D.a D.n D.c], .agg #[.int .i64 b.o.c, .int .i64 b.o.s, .int .i64 b.o.k, .string (txt b.o.acct), .string (txt b.o.peer), .int .i64 b.o.sum, .slice M.a M.n M.c, .int .i64 b.o.per, .int .i64 b.o.hold, .string (txt b.o.note), .bool b.none, .slice E.a E.n E.c]] w fun e w' => e = .returned (.bool (decide (a = b))) ∧ Mod none_ w w' := by
  have kO := Lib.hid (fun W (h : Mod none_ w W) => sameO_ok W a.o b.o L M (ha.od.mod0 h) (hb.od.mod0 h) hL hM)
  have kE := Lib.hid (fun W (h : Mod none_ w W) => eqP_ok W D.a E.a D.n E.n D.c E.c a.deps b.deps (ha.rd.mod0 h) (hb.rd.mod0 h) hD hE)
  have hm0 : ∀ o p, Mod none_ w ((w.alloc o).alloc p) := fun o p => ((Mod.refl none_ w).alloc o).alloc p
  have he := @en_eq a b
  replace ha := Lib.hid ha
  replace hb := Lib.hid hb
  replace he := Lib.hid he
  obtain ⟨ao, na, ad⟩ := a
  obtain ⟨bo, nb, bd⟩ := b
  dsimp only at kO kE he ⊢
  by_cases h1 : na = nb
  · have hd1 : (na == nb) = true := by simp [h1]
    by_cases h2 : ao = bo
    · rw [decide_eq_true h2] at kO
      have hr : (decide ((⟨ao, na, ad⟩ : En) = ⟨bo, nb, bd⟩)) = decide (ad = bd) := by rw [decide_eq_decide, he.out]; exact ⟨fun h => h.2.2, fun h => ⟨h1, h2, h⟩⟩
      rw [hr]
      replace h1 := Lib.hid h1
      replace h2 := Lib.hid h2
      replace hr := Lib.hid hr
      go_enter Tryz.func40, Tryz.ntmps40
      go_wp2_with fail
      with_reducible refine (kO.out _ (hm0 _ _)).mono ?_
      rintro e w1 ⟨rfl, hm1⟩
      dsimp only
      have x1 := (((Blk.new w _ _).alloc _).mod hm1 (fun h => h)).cell_ (i := 11) rfl
      have x2 := ((Blk.new (w.alloc _) _ _).mod hm1 (fun h => h)).cell_ (i := 11) rfl
      simp only [World.size_alloc] at x2
      have hm2 := (hm0 _ _).trans hm1
      have kE' := Lib.hid (kE.out _ hm2)
      replace hm1 := Lib.hid hm1
      go_wp2_with fail
      with_reducible refine kE'.out.mono ?_
      rintro e w2 ⟨rfl, q, hq⟩
      dsimp only
      have hm3 : Mod none_ w w2 := by rw [hq]; exact hm2.drewN _
      replace hm3 := Lib.hid hm3
      replace hq := Lib.hid hq
      go_wp2_with fail
      go_ret
      exact ⟨rfl, hm3.out⟩
    · rw [decide_eq_false h2] at kO
      have hr : (decide ((⟨ao, na, ad⟩ : En) = ⟨bo, nb, bd⟩)) = false := by rw [decide_eq_false_iff_not, he.out]; exact fun h => h2 h.2.1
      rw [hr]
      replace h1 := Lib.hid h1
      replace h2 := Lib.hid h2
      replace hr := Lib.hid hr
      go_enter Tryz.func40, Tryz.ntmps40
      go_wp2_with fail
      with_reducible refine (kO.out _ (hm0 _ _)).mono ?_
      rintro e w1 ⟨rfl, hm1⟩
      dsimp only
      have hm2 := Lib.hid ((hm0 _ _).trans hm1)
      replace hm1 := Lib.hid hm1
      go_wp2_with fail
      go_ret
      exact ⟨rfl, hm2.out⟩
  · have hd1 : (na == nb) = false := by simp [h1]
    have hr : (decide ((⟨ao, na, ad⟩ : En) = ⟨bo, nb, bd⟩)) = false := by rw [decide_eq_false_iff_not, he.out]; exact fun h => h1 h.1
    rw [hr]
    replace h1 := Lib.hid h1
    replace hr := Lib.hid hr
    go_enter Tryz.func40, Tryz.ntmps40
    go_wp2_with fail
    go_ret
    exact ⟨rfl, hm0 _ _⟩
end Go.Proofs.YtimlfdihodoolaaGreat
/-
  The order of texts, byte by byte: whole, and lists that rise by it. Plain.
-/
namespace Go.Proofs.YtimlfdihodoolaaGreat
set_option linter.unusedVariables false
set_option linter.unusedSimpArgs false
open Go.RowKit
theorem bb_irrefl : ∀ a : List UInt8, bytesBefore a a = false
  | [] => rfl
  | a :: r => by simp [bytesBefore, bb_irrefl r]
theorem bb_cons (a b : UInt8) (r s : List UInt8) : bytesBefore (a :: r) (b :: s) = true ↔ a < b ∨ (a = b ∧ bytesBefore r s = true) := by simp [bytesBefore]
theorem bb_trans : ∀ a b c : List UInt8, bytesBefore a b = true → bytesBefore b c = true → bytesBefore a c = true
  | [], [], _, h, _ => by simp [bytesBefore] at h
  | [], _ :: _, [], _, h => by simp [bytesBefore] at h
  | [], _ :: _, _ :: _, _, _ => rfl
  | _ :: _, [], _, h, _ => by simp [bytesBefore] at h
  | _ :: _, _ :: _, [], _, h => by simp [bytesBefore] at h
  | x :: a, y :: b, z :: c, h, g => by
    rw [bb_cons] at h g ⊢
    rcases h with h | ⟨rfl, h⟩
    · rcases g with g | ⟨rfl, g⟩
      · exact .inl (UInt8.lt_trans h g)
      · exact .inl h
    · rcases g with g | ⟨rfl, g⟩
      · exact .inl g
      · exact .inr ⟨rfl, bb_trans a b c h g⟩
theorem bb_total : ∀ a b : List UInt8, bytesBefore a b = true ∨ a = b ∨ bytesBefore b a = true
  | [], [] => .inr (.inl rfl)
  | [], _ :: _ => .inl rfl
  | _ :: _, [] => .inr (.inr rfl)
  | x :: a, y :: b => by
    rw [bb_cons, bb_cons]
    have tri : x < y ∨ x = y ∨ y < x := by
      rcases Nat.lt_trichotomy x.toNat y.toNat with h | h | h
      · exact .inl (UInt8.lt_iff_toNat_lt.2 h)
      · exact .inr (.inl (UInt8.toNat_inj.1 h))
      · exact .inr (.inr (UInt8.lt_iff_toNat_lt.2 h))
    rcases tri with h | rfl | h
    · exact .inl (.inl h)
    · rcases bb_total a b with h | rfl | h
      · exact .inl (.inr ⟨rfl, h⟩)
      · exact .inr (.inl rfl)
      · exact .inr (.inr (.inr ⟨rfl, h⟩))
    · exact .inr (.inr (.inl h))
theorem bb_asymm {a b : List UInt8} (h : bytesBefore a b = true) : bytesBefore b a = false := by
  cases hb : bytesBefore b a with
  | false => rfl
  | true => have := bb_trans a b a h hb; rw [bb_irrefl] at this; cases this
theorem bb_ne {a b : List UInt8} (h : bytesBefore a b = true) : a ≠ b := by rintro rfl; rw [bb_irrefl] at h; cases h
end Go.Proofs.YtimlfdihodoolaaGreat
/-
  A range over a text: what its runes are, byte by byte. Plain.
-/
namespace Go.Proofs.YtimlfdihodoolaaGreat
set_option linter.unusedVariables false
set_option linter.unusedSimpArgs false
open Go.RowKit
set_option maxRecDepth 100000 in
theorem dec_wide (s : ByteArray) (i : Nat) (h : 128 ≤ (s.get! i).toNat) : 128 ≤ (Utf8.decode s i).1 ∧ ((Utf8.decode s i).1 < 55296 ∨ 57343 < (Utf8.decode s i).1 ∧ (Utf8.decode s i).1 ≤ 1114111) := by
  refine ⟨?_, ?_⟩
  · rw [Lib.decode_at]
    generalize (s.get! i).toNat = b0 at h
    generalize (s.get! (i + 1)).toNat = b1
    generalize (s.get! (i + 2)).toNat = b2
    generalize (s.get! (i + 3)).toNat = b3
    unfold Lib.decodeN
    repeat' split
    all_goals (simp only; omega)
  · rw [Lib.decode_at]
    exact Lib.decodeN_valid _ _ _ _ _ (UInt8.toNat_lt _)
end Go.Proofs.YtimlfdihodoolaaGreat
/-
  DERIVED: THE SHELF's CONTRACTS AT THIS DUMP, IN PLAIN WORDS (tools/lay-plain.mjs out of 'TryzShelf.lean', which tools/lay-shelf.mjs wrote): THE SAME DECLARATIONS UNDER THE SAME NAMES: 'import', 'namespace', 'open', 'def', 'theorem' AND NOTHING ELSE: no command of the shelf's: FOR A HAND-IN. Each laying: the table of numbers ('.._ren') and one theorem, a field a fact of the dump's own or the kernel's comparison; each contract: ONE APPLICATION.
-/
namespace Go.Proofs
open Go.Shelf
def Tryz.lays119_ren : Go.Shelf.Ren := ⟨fun | 119 => 133 | n => n, fun | 21 => 21 | 4 => 4 | n => n, fun | n => n⟩
theorem Tryz.lays119 : Go.Proofs.Lays.n119 Tryz.prog Tryz.lays119_ren := {
  mixed := by kernel_rfl
  f119 := Tryz.func133.trans (congrArg some (by kernel_rfl))
  t4 := Tryz.underlying4
  a4 := Tryz.isAgg4
  z4 := Tryz.sizeOf4
  v4 := Tryz.zeroValue4
  t21 := Tryz.underlying21
  a21 := Tryz.isAgg21
  z21 := Tryz.sizeOf21
  v21 := Tryz.zeroValue21 }
/-- utf8.ValidRune: "ValidRune reports whether r can be legally encoded as UTF-8. Code points that are out of range or a surrogate half are illegal.": IT RETURNS 'Lib.validRune r'; the world is as it was. (LAID: no walk: one application.) -/
theorem Tryz.utf8_ValidRune (r : Int) (w : World) :
    Calls Tryz.prog 133 #[.int .i32 r] w fun e w' => e = .returned (.bool (Lib.validRune r)) ∧ w' = w := Any.utf8_ValidRune Tryz.lays119 r w
def Tryz.lays128_ren : Go.Shelf.Ren := ⟨fun | 128 => 104 | n => n, fun | 51 => 103 | 3 => 3 | 4 => 4 | 46 => 101 | 5 => 5 | 9 => 9 | n => n, fun | n => n⟩
theorem Tryz.lays128 : Go.Proofs.Lays.n128 Tryz.prog Tryz.lays128_ren := {
  mixed := by kernel_rfl
  f128 := Tryz.func104.trans (congrArg some (by kernel_rfl))
  t3 := Tryz.underlying3
  a3 := Tryz.isAgg3
  z3 := Tryz.sizeOf3
  v3 := Tryz.zeroValue3
  t4 := Tryz.underlying4
  a4 := Tryz.isAgg4
  z4 := Tryz.sizeOf4
  v4 := Tryz.zeroValue4
  t5 := Tryz.underlying5
  a5 := Tryz.isAgg5
  z5 := Tryz.sizeOf5
  v5 := Tryz.zeroValue5
  t9 := Tryz.underlying9
  a9 := Tryz.isAgg9
  z9 := Tryz.sizeOf9
  v9 := Tryz.zeroValue9
  t46 := Tryz.underlying101
  a46 := Tryz.isAgg101
  z46 := Tryz.sizeOf101
  v46 := Tryz.zeroValue101
  t51 := Tryz.underlying103
  a51 := Tryz.isAgg103
  z51 := Tryz.sizeOf103
  v51 := Tryz.zeroValue103 }
/-- bits.Len32: "Len32 returns the minimum number of bits required to represent x; the result is 0 for x == 0.": IT RETURNS 'Lib.bitLen x'; the world is as it was. ('h0', 'h1': x is a uint32.) (LAID: no walk: one application.) -/
theorem Tryz.bits_Len32 (x : Int) (w : World) (h0 : 0 ≤ x) (h1 : x ≤ 4294967295) :
    Calls Tryz.prog 104 #[.int .u32 x] w fun e w' => e = .returned (.int .i64 (Lib.bitLen x.toNat)) ∧ w' = w := Any.bits_Len32 Tryz.lays128 x w h0 h1
def Tryz.lays125_ren : Go.Shelf.Ren := ⟨fun | 125 => 86 | 128 => 104 | 129 => 105 | n => n, fun | 46 => 101 | 3 => 3 | 51 => 103 | 53 => 114 | 4 => 4 | 5 => 5 | 9 => 9 | n => n, fun | n => n⟩
theorem Tryz.lays125 : Go.Proofs.Lays.n125 Tryz.prog Tryz.lays125_ren := {
  mixed := by kernel_rfl
  f125 := Tryz.func86.trans (congrArg some (by kernel_rfl))
  f128 := Tryz.func104.trans (congrArg some (by kernel_rfl))
  f129 := Tryz.func105.trans (congrArg some (by kernel_rfl))
  t3 := Tryz.underlying3
  a3 := Tryz.isAgg3
  z3 := Tryz.sizeOf3
  v3 := Tryz.zeroValue3
  t4 := Tryz.underlying4
  a4 := Tryz.isAgg4
  z4 := Tryz.sizeOf4
  v4 := Tryz.zeroValue4
  t5 := Tryz.underlying5
  a5 := Tryz.isAgg5
  z5 := Tryz.sizeOf5
  v5 := Tryz.zeroValue5
  t9 := Tryz.underlying9
  a9 := Tryz.isAgg9
  z9 := Tryz.sizeOf9
  v9 := Tryz.zeroValue9
  t46 := Tryz.underlying101
  a46 := Tryz.isAgg101
  z46 := Tryz.sizeOf101
  v46 := Tryz.zeroValue101
  t51 := Tryz.underlying103
  a51 := Tryz.isAgg103
  z51 := Tryz.sizeOf103
  v51 := Tryz.zeroValue103
  t53 := Tryz.underlying114
  a53 := Tryz.isAgg114
  z53 := Tryz.sizeOf114
  v53 := Tryz.zeroValue114 }
/-- bits.Len: "Len returns the minimum number of bits required to represent x; the result is 0 for x == 0.": IT RETURNS 'Lib.bitLen x'; the world is as it was. (A uint has 64 bits in the model.) ITS CALLEE bits.Len64 IS MET BY ITS OWN CONTRACT OFF THE SHELF (lay that first). (LAID: no walk: one application.) -/
theorem Tryz.bits_Len (x : Int) (w : World) (h0 : 0 ≤ x) (h1 : x ≤ 18446744073709551615) :
    Calls Tryz.prog 86 #[.int .u64 x] w fun e w' => e = .returned (.int .i64 (Lib.bitLen x.toNat)) ∧ w' = w := Any.bits_Len Tryz.lays125 x w h0 h1
def Tryz.lays137_ren : Go.Shelf.Ren := ⟨fun | 137 => 132 | 217 => 136 | 266 => 137 | n => n, fun | 9 => 9 | 5 => 5 | 3 => 3 | n => n, fun | n => n⟩
theorem Tryz.lays137 : Go.Proofs.Lays.n137 Tryz.prog Tryz.lays137_ren := {
  mixed := by kernel_rfl
  f137 := Tryz.func132.trans (congrArg some (by kernel_rfl))
  f217 := Tryz.func136.trans (congrArg some (by kernel_rfl))
  f266 := Tryz.func137.trans (congrArg some (by kernel_rfl))
  t3 := Tryz.underlying3
  a3 := Tryz.isAgg3
  z3 := Tryz.sizeOf3
  v3 := Tryz.zeroValue3
  t5 := Tryz.underlying5
  a5 := Tryz.isAgg5
  z5 := Tryz.sizeOf5
  v5 := Tryz.zeroValue5
  t9 := Tryz.underlying9
  a9 := Tryz.isAgg9
  z9 := Tryz.sizeOf9
  v9 := Tryz.zeroValue9 }
open Go.RowKit in
/-- strings.IndexByte: "IndexByte returns the index of the first instance of c in s, or -1 if c is not present in s.": IT RETURNS 'Lib.indexByte s c'; the world is as it was. (LAID: no walk: one application.) -/
theorem Tryz.strings_IndexByte (s : ByteArray) (c : Int) (w : World) :
    Calls Tryz.prog 132 #[.string s, .int .u8 c] w fun e w' => e = .returned (.int .i64 (Lib.indexByte s.data.toList c.toNat.toUInt8)) ∧ w' = w := Any.strings_IndexByte Tryz.lays137 s c w
def Tryz.lays215_ren : Go.Shelf.Ren := ⟨fun | 215 => 106 | n => n, fun | 3 => 3 | 4 => 4 | n => n, fun | n => n⟩
theorem Tryz.lays215 : Go.Proofs.Lays.n215 Tryz.prog Tryz.lays215_ren := {
  mixed := by kernel_rfl
  f215 := Tryz.func106.trans (congrArg some (by kernel_rfl))
  t3 := Tryz.underlying3
  a3 := Tryz.isAgg3
  z3 := Tryz.sizeOf3
  v3 := Tryz.zeroValue3
  t4 := Tryz.underlying4
  a4 := Tryz.isAgg4
  z4 := Tryz.sizeOf4
  v4 := Tryz.zeroValue4 }
open Go.RowKit in
/-- cmp.isNaN at int: 'x != x': false. (LAID: no walk: one application.) -/
theorem Tryz.cmp_isNaN_int (x : Int) (w : World) :
    Calls Tryz.prog 106 #[.int .i64 x] w fun e w' => e = .returned (.bool false) ∧ w' = w := Any.cmp_isNaN_int Tryz.lays215 x w
def Tryz.lays122_ren : Go.Shelf.Ren := ⟨fun | 122 => 88 | 215 => 106 | n => n, fun | 3 => 3 | 4 => 4 | n => n, fun | n => n⟩
theorem Tryz.lays122 : Go.Proofs.Lays.n122 Tryz.prog Tryz.lays122_ren := {
  mixed := by kernel_rfl
  f122 := Tryz.func88.trans (congrArg some (by kernel_rfl))
  f215 := Tryz.func106.trans (congrArg some (by kernel_rfl))
  t3 := Tryz.underlying3
  a3 := Tryz.isAgg3
  z3 := Tryz.sizeOf3
  v3 := Tryz.zeroValue3
  t4 := Tryz.underlying4
  a4 := Tryz.isAgg4
  z4 := Tryz.sizeOf4
  v4 := Tryz.zeroValue4 }
open Go.RowKit in
/-- cmp.Compare at int: "Compare returns -1 if x is less than y, 0 if x equals y, +1 if x is greater than y.": IT RETURNS 'Lib.compareInt x y'; the world is as it was. (LAID: no walk: one application.) -/
theorem Tryz.cmp_Compare_int (x y : Int) (w : World) :
    Calls Tryz.prog 88 #[.int .i64 x, .int .i64 y] w fun e w' => e = .returned (.int .i64 (Lib.compareInt x y)) ∧ w' = w := Any.cmp_Compare_int Tryz.lays122 x y w
def Tryz.lays129_ren : Go.Shelf.Ren := ⟨fun | 129 => 105 | n => n, fun | 53 => 114 | 3 => 3 | 4 => 4 | 46 => 101 | 5 => 5 | 9 => 9 | n => n, fun | n => n⟩
theorem Tryz.lays129 : Go.Proofs.Lays.n129 Tryz.prog Tryz.lays129_ren := {
  mixed := by kernel_rfl
  f129 := Tryz.func105.trans (congrArg some (by kernel_rfl))
  t3 := Tryz.underlying3
  a3 := Tryz.isAgg3
  z3 := Tryz.sizeOf3
  v3 := Tryz.zeroValue3
  t4 := Tryz.underlying4
  a4 := Tryz.isAgg4
  z4 := Tryz.sizeOf4
  v4 := Tryz.zeroValue4
  t5 := Tryz.underlying5
  a5 := Tryz.isAgg5
  z5 := Tryz.sizeOf5
  v5 := Tryz.zeroValue5
  t9 := Tryz.underlying9
  a9 := Tryz.isAgg9
  z9 := Tryz.sizeOf9
  v9 := Tryz.zeroValue9
  t46 := Tryz.underlying101
  a46 := Tryz.isAgg101
  z46 := Tryz.sizeOf101
  v46 := Tryz.zeroValue101
  t53 := Tryz.underlying114
  a53 := Tryz.isAgg114
  z53 := Tryz.sizeOf114
  v53 := Tryz.zeroValue114 }
/-- bits.Len64: "Len64 returns the minimum number of bits required to represent x; the result is 0 for x == 0.": IT RETURNS 'Lib.bitLen x'; the world is as it was. ('h0', 'h1': x is a uint64.) (LAID: no walk: one application.) -/
theorem Tryz.bits_Len64 (x : Int) (w : World) (h0 : 0 ≤ x) (h1 : x ≤ 18446744073709551615) :
    Calls Tryz.prog 105 #[.int .u64 x] w fun e w' => e = .returned (.int .i64 (Lib.bitLen x.toNat)) ∧ w' = w := Any.bits_Len64 Tryz.lays129 x w h0 h1
def Tryz.lays217_ren : Go.Shelf.Ren := ⟨fun | 217 => 136 | 266 => 137 | n => n, fun | 9 => 9 | 5 => 5 | 3 => 3 | n => n, fun | n => n⟩
theorem Tryz.lays217 : Go.Proofs.Lays.n217 Tryz.prog Tryz.lays217_ren := {
  mixed := by kernel_rfl
  f217 := Tryz.func136.trans (congrArg some (by kernel_rfl))
  f266 := Tryz.func137.trans (congrArg some (by kernel_rfl))
  t3 := Tryz.underlying3
  a3 := Tryz.isAgg3
  z3 := Tryz.sizeOf3
  v3 := Tryz.zeroValue3
  t5 := Tryz.underlying5
  a5 := Tryz.isAgg5
  z5 := Tryz.sizeOf5
  v5 := Tryz.zeroValue5
  t9 := Tryz.underlying9
  a9 := Tryz.isAgg9
  z9 := Tryz.sizeOf9
  v9 := Tryz.zeroValue9 }
open Go.RowKit Go.Lib in
/-- internal/stringslite.IndexByte (what strings.IndexByte calls): IT RETURNS 'Lib.indexByte s c'; the world is as it was. (LAID: no walk: one application.) -/
theorem Tryz.stringslite_IndexByte (s : ByteArray) (c : Int) (w : World) :
    Calls Tryz.prog 136 #[.string s, .int .u8 c] w fun e w' => e = .returned (.int .i64 (Lib.indexByte s.data.toList c.toNat.toUInt8)) ∧ w' = w := Any.stringslite_IndexByte Tryz.lays217 s c w
def Tryz.lays224_ren : Go.Shelf.Ren := ⟨fun | 224 => 134 | n => n, fun | 3 => 3 | n => n, fun | n => n⟩
theorem Tryz.lays224 : Go.Proofs.Lays.n224 Tryz.prog Tryz.lays224_ren := {
  mixed := by kernel_rfl
  f224 := Tryz.func134.trans (congrArg some (by kernel_rfl))
  t3 := Tryz.underlying3
  a3 := Tryz.isAgg3
  z3 := Tryz.sizeOf3
  v3 := Tryz.zeroValue3 }
open Go.RowKit Go.Lib in
/-- internal/bytealg.Cutover: "Cutover reports the number of failures of IndexByte we should tolerate before switching over to Index. n is the number of bytes processed so far.": on amd64: (n + 16) / 8. (LAID: no walk: one application.) -/
theorem Tryz.bytealg_Cutover (n : Int) (h0 : 0 ≤ n) (h1 : n < 4611686018427387904) (w : World) :
    Calls Tryz.prog 134 #[.int .i64 n] w fun e w' => e = .returned (.int .i64 ((n + 16) / 8)) ∧ w' = w := Any.bytealg_Cutover Tryz.lays224 n h0 h1 w
def Tryz.lays152_ren : Go.Shelf.Ren := ⟨fun | 152 => 130 | 137 => 132 | 119 => 133 | 224 => 134 | 225 => 135 | 217 => 136 | 266 => 137 | n => n, fun | 9 => 9 | 21 => 21 | 3 => 3 | 4 => 4 | 5 => 5 | 0 => 0 | 46 => 101 | n => n, fun | n => n⟩
theorem Tryz.lays152 : Go.Proofs.Lays.n152 Tryz.prog Tryz.lays152_ren := {
  mixed := by kernel_rfl
  f119 := Tryz.func133.trans (congrArg some (by kernel_rfl))
  f137 := Tryz.func132.trans (congrArg some (by kernel_rfl))
  f152 := Tryz.func130.trans (congrArg some (by kernel_rfl))
  f217 := Tryz.func136.trans (congrArg some (by kernel_rfl))
  f224 := Tryz.func134.trans (congrArg some (by kernel_rfl))
  f225 := Tryz.func135.trans (congrArg some (by kernel_rfl))
  f266 := Tryz.func137.trans (congrArg some (by kernel_rfl))
  t0 := Tryz.underlying0
  a0 := Tryz.isAgg0
  z0 := Tryz.sizeOf0
  v0 := Tryz.zeroValue0
  t3 := Tryz.underlying3
  a3 := Tryz.isAgg3
  z3 := Tryz.sizeOf3
  v3 := Tryz.zeroValue3
  t4 := Tryz.underlying4
  a4 := Tryz.isAgg4
  z4 := Tryz.sizeOf4
  v4 := Tryz.zeroValue4
  t5 := Tryz.underlying5
  a5 := Tryz.isAgg5
  z5 := Tryz.sizeOf5
  v5 := Tryz.zeroValue5
  t9 := Tryz.underlying9
  a9 := Tryz.isAgg9
  z9 := Tryz.sizeOf9
  v9 := Tryz.zeroValue9
  t21 := Tryz.underlying21
  a21 := Tryz.isAgg21
  z21 := Tryz.sizeOf21
  v21 := Tryz.zeroValue21
  t46 := Tryz.underlying101
  a46 := Tryz.isAgg101
  z46 := Tryz.sizeOf101
  v46 := Tryz.zeroValue101 }
open Go.RowKit Go.Lib in
theorem Tryz.strings_IndexRune_ascii (s : ByteArray) (r : Int) (w : World) (h0 : 0 ≤ r) (h1 : r < 128) :
    Calls Tryz.prog 130 #[.string s, .int .i32 r] w fun e w' => e = .returned (.int .i64 (Lib.indexByte s.data.toList r.toNat.toUInt8)) ∧ w' = w := Any.strings_IndexRune_ascii Tryz.lays152 s r w h0 h1
def Tryz.laysNm237_ren : Go.Shelf.Ren := ⟨fun | 37 => 106 | n => n, fun | 3 => 3 | 4 => 4 | n => n, fun | n => n⟩
theorem Tryz.laysNm237 : Go.Proofs.Lays2.n37 Tryz.prog Tryz.laysNm237_ren := {
  mixed := by kernel_rfl
  f37 := Tryz.func106.trans (congrArg some (by kernel_rfl))
  t3 := Tryz.underlying3
  a3 := Tryz.isAgg3
  z3 := Tryz.sizeOf3
  v3 := Tryz.zeroValue3
  t4 := Tryz.underlying4
  a4 := Tryz.isAgg4
  z4 := Tryz.sizeOf4
  v4 := Tryz.zeroValue4 }
open Go.RowKit Go.Lib in
/-- cmp.isNaN[int]: 'x != x': false. (LAID: no walk: one application.) -/
theorem Tryz.cmp_isNaN_int2 (x : Int) (w : World) :
    Calls Tryz.prog 106 #[.int .i64 x] w fun e w' => e = .returned (.bool false) ∧ w' = w := Any.cmp_isNaN_int2 Tryz.laysNm237 x w
end Go.Proofs
/-
  strings.IndexRune of a rune of two bytes or more in the signs of a name: -1.
-/
namespace Go.Proofs.YtimlfdihodoolaaGreat
set_option linter.unusedVariables false
set_option linter.unusedSimpArgs false
open Go.RowKit
def signs : ByteArray := ⟨#[97, 98, 99, 100, 101, 102, 103, 104, 105, 106, 107, 108, 109, 110, 111, 112, 113, 114, 115, 116, 117, 118, 119, 120, 121, 122, 48, 49, 50, 51, 52, 53, 54, 55, 56, 57]⟩
theorem ixb_none : ∀ (l : List UInt8) (c : UInt8), (∀ b ∈ l, b ≠ c) → Lib.indexByte l c = -1
  | [], _, _ => rfl
  | b :: l, c, h => by
    have h1 : (b == c) = false := by have := h b (by simp); simpa using this
    have h2 := ixb_none l c (fun x hx => h x (by simp [hx]))
    simp [Lib.indexByte, h1, h2]
theorem sign_small (b : UInt8) (h : b ∈ signs.data.toList) : b.toNat < 128 := by
  have : ∀ b ∈ signs.data.toList, b.toNat < 128 := by decide
  exact this b h
set_option maxRecDepth 1000000 in
set_option maxHeartbeats 4000000 in
theorem ixr_wide (w : World) (r : Nat) (h1 : 128 ≤ r) (hv : r < 55296 ∨ 57343 < r ∧ r ≤ 1114111) (hr : ¬ r = 65533) : Calls Tryz.prog 130 #[.string signs, .int .i32 (r : Int)] w fun e w' => e = .returned (.int .i64 (-1)) ∧ Mod none_ w w' := by
  have hsz : signs.size = 36 := rfl
  have hsg := sign_small
  generalize signs = sg at *
  have hok : validRune (r : Int) = true := by simp only [validRune, decide_eq_true_eq]; omega
  obtain ⟨g1, g2, g3⟩ := encode_facts (r : Int) (by rw [validRune_eq]; exact hok) (by omega)
  have hvr := fun W => Tryz.utf8_ValidRune (r : Int) W
  rw [show Lib.validRune (r : Int) = true from hok] at hvr
  obtain ⟨rs, hrs⟩ : ∃ rs, Utf8.encode (r : Int) = rs := ⟨_, rfl⟩
  rw [hrs] at g1 g2 g3
  obtain ⟨m, hm⟩ : ∃ m, rs.size = m + 1 := ⟨rs.size - 1, by omega⟩
  have hm1 : 1 ≤ m ∧ m ≤ 3 := by omega
  have hml : m < rs.size := by omega
  have hmg : m < sg.size := by omega
  have hwm : wrap64 (m : Int) = (m : Int) := IntWalk.wrap64_in _ ⟨by omega, by omega⟩
  have hlast : 128 ≤ (rs[m]'hml).toNat := by
    have := g3 (by omega)
    have e : rs.size - 1 = m := by omega
    simpa only [e] using this
  have hst : ∀ b ∈ (sg.extract (m+1) sg.size).data.toList, b ≠ rs[m]'hml := fun b hb e => by
    have := hsg b (mem_extract hb)
    rw [e] at this; omega
  have hfst : (sg[m]'hmg).toNat < 128 := hsg _ (Array.getElem_mem_toList (xs := sg.data) hmg)
  have i1 : ∀ W, (Instr.index 9 (.string sg) (.int .i64 (m : Int))).run Tryz.prog W = .ok (.int .u8 ((sg[m]'hmg).toNat : Int)) W := fun W => by
    rw [run_index_string W _ sg .i64 m Tryz.underlying9, dif_pos (by omega)]
    rfl
  have i2 : ∀ W, (Instr.index 9 (.string rs) (.int .i64 (m : Int))).run Tryz.prog W = .ok (.int .u8 ((rs[m]'hml).toNat : Int)) W := fun W => by
    rw [run_index_string W _ rs .i64 m Tryz.underlying9, dif_pos (by omega)]
    rfl
  have i3 : ∀ W, (Instr.slice 9 (.string sg) (some (.int .i64 ((m : Int) + 1))) none none).run Tryz.prog W = .ok (.string (sg.extract (m+1) sg.size)) W := fun W => by
    rw [run_slice_string_l W _ sg Tryz.underlying9 .i64 ((m:Int)+1) (by omega) (by omega)]
    rfl
  have i6 : ∀ W, (Instr.sliceAt 9 (.string sg) (some (.int .i64 ((m : Int) + 1))) none none).run Tryz.prog W = .ok (.string (sg.extract (m+1) sg.size)) W := fun W => by
    rw [run_sliceAt_string W _ _ _ _ _ Tryz.underlying9, i3 W]
  have i4 : ∀ W, Calls Tryz.prog 132 #[.string (sg.extract (m+1) sg.size), .int .u8 ((rs[m]'hml).toNat : Int)] W fun e w' => e = .returned (.int .i64 (-1)) ∧ w' = W := fun W => by
    have := Tryz.strings_IndexByte (sg.extract (m+1) sg.size) ((rs[m]'hml).toNat : Int) W
    rw [show (((rs[m]'hml).toNat : Int).toNat).toUInt8 = rs[m]'hml by simp, ixb_none _ _ hst] at this
    exact this
  have i5 : (((sg[m]'hmg).toNat : Int) == ((rs[m]'hml).toNat : Int)) = false := by simp; omega
  generalize ((rs[m]'hml).toNat : Int) = c at *
  generalize ((sg[m]'hmg).toNat : Int) = d at *
  generalize sg.extract (m+1) sg.size = st at *
  replace hok := Lib.hid hok
  replace hvr := Lib.hid hvr
  replace hv := Lib.hid hv
  replace g1 := Lib.hid g1
  replace g2 := Lib.hid g2
  replace g3 := Lib.hid g3
  replace hsg := Lib.hid hsg
  replace hrs := Lib.hid hrs
  replace hm := Lib.hid hm
  replace hm1 := Lib.hid hm1
  replace hsz := Lib.hid hsz
  replace hml := Lib.hid hml
  replace hmg := Lib.hid hmg
  replace hwm := Lib.hid hwm
  replace hlast := Lib.hid hlast
  replace hst := Lib.hid hst
  replace hfst := Lib.hid hfst
  replace i1 := Lib.hid i1
  replace i2 := Lib.hid i2
  replace i3 := Lib.hid i3
  replace i4 := Lib.hid i4
  replace i5 := Lib.hid i5
  replace i6 := Lib.hid i6
  go_enter Tryz.func130, Tryz.ntmps130
  go_wp2_with (go_step3)
  refine (hvr.out w).mono ?_
  rintro e w1 ⟨rfl, rfl⟩
  dsimp only
  have hm := hm.out
  have hm1 := hm1.out
  have hsz := hsz.out
  have hwm := hwm.out
  go_wp2_with (go_step3)
  rename_i K0 a0
  clear a0
  rw [hrs.out]
  rw [hrs.out] at *
  go_loopw [9, 10] (fun x y wr => x = .int .i64 (m : Int) ∧ y = .int .i64 0 ∧ w1 = wr) (fun _ _ _ => 0)
  case atStart =>
    refine ⟨?_, rfl, rfl⟩
    rw [hm, show (((m + 1 : Nat) : Int) - 1) = (m : Int) by omega, hwm]
  case round =>
    obtain ⟨rfl, rfl, rfl⟩ := hrel
    replace i1 := i1.out
    replace i2 := i2.out
    replace i3 := i3.out
    replace i6 := i6.out
    replace i5 := i5.out
    have i7 : IntKind.i64.wrap ((m : Int) + 1) = (m : Int) + 1 := wrap_small _ (by omega) (by omega)
    have i8 : ∀ W, (Instr.sliceAt 9 (.string sg) (some (.int .i64 (IntKind.i64.wrap ((m : Int) + 1)))) none none).run Tryz.prog W = .ok (.string st) W := fun W => by rw [i7]; exact i6 W
    have i9 : ∀ W, (Instr.slice 9 (.string sg) (some (.int .i64 (IntKind.i64.wrap ((m : Int) + 1)))) none none).run Tryz.prog W = .ok (.string st) W := fun W => by rw [i7]; exact i3 W
    clear i7
    go_wp2_with (first | go_step3 | (go_quiet ((go_at_call 132; exact (i4.out _).mono (fun e w' h => ⟨h.1, _, h.2⟩)))))
    rw [Exit.noGoto_ret]
    go_ret
    exact ⟨rfl, (Mod.refl none_ w1).drewN _⟩
end Go.Proofs.YtimlfdihodoolaaGreat
/-
  strings.IndexRune of the rune that stands for none, in the signs of a name: -1.
-/
namespace Go.Proofs.YtimlfdihodoolaaGreat
set_option linter.unusedVariables false
set_option linter.unusedSimpArgs false
open Go.RowKit
set_option maxRecDepth 1000000 in
set_option maxHeartbeats 4000000 in
theorem ixr_err (w : World) : Calls Tryz.prog 130 #[.string signs, .int .i32 65533] w fun e w' => e = .returned (.int .i64 (-1)) ∧ Mod none_ w w' := by
  have hsz : signs.size = 36 := rfl
  have hsg := sign_small
  generalize signs = sg at *
  replace hsz := Lib.hid hsz
  replace hsg := Lib.hid hsg
  go_enter Tryz.func130, Tryz.ntmps130
  go_wp2_with fail
  go_loopw [] (fun wr => ∃ pos : Nat, wr.heap[w.heap.size]? = some (.stringIter sg pos) ∧ Mod none_ w wr ∧ pos ≤ sg.size) (fun wr => sg.size - wr.iterPos w.heap.size)
  case atStart => exact ⟨0, World.iter_heap w sg 0, (Mod.refl none_ w).alloc _, by omega⟩
  case round =>
    obtain ⟨pos, hit, hm, hp⟩ := hrel
    have hs2 : w.heap.size < wr.heap.size := (Array.getElem?_eq_some_iff.1 hit).1
    by_cases hlt : pos < sg.size
    · have hnx : ∀ ty, (Instr.next (.pointer (some ⟨w.heap.size, 0, none⟩)) true ty).run Tryz.prog wr = _ := fun ty => Lib.run_next_any_at wr w.heap.size sg pos ty hit hlt
      have hm2 : Mod none_ w (wr.iterAt w.heap.size sg (pos + (Utf8.decode sg pos).2)) := Mod.of_below (Lib.below_iterAt hm.below0 (k := w.heap.size) (by omega) sg _)
      have hit2 := Lib.iterAt_heap wr w.heap.size sg pos (pos + (Utf8.decode sg pos).2) hit
      have hb : (sg[pos]'hlt).toNat < 128 := hsg.out _ (Array.getElem_mem_toList (xs := sg.data) hlt)
      rw [decode_ascii sg pos hlt hb] at hnx hm2 hit2
      have hne : (((sg[pos]'hlt).toNat : Int) == 65533) = false := by simp; omega
      generalize (sg[pos]'hlt).toNat = v at *
      replace hm := Lib.hid hm
      replace hit := Lib.hid hit
      replace hm2 := Lib.hid hm2
      replace hit2 := Lib.hid hit2
      replace hb := Lib.hid hb
      go_wp2_with fail
      go_roundw
      case rel => exact ⟨pos + 1, hit2.out, hm2.out, by omega⟩
      case measure => simp only [World.iterPos, hit2.out, hit.out]; omega
    · have hnx : ∀ ty, (Instr.next (.pointer (some ⟨w.heap.size, 0, none⟩)) true ty).run Tryz.prog wr = _ := fun ty => Lib.run_next_end_at wr w.heap.size sg pos ty hit hlt
      replace hm := Lib.hid hm
      replace hit := Lib.hid hit
      go_wp2_with fail
      go_ret
      exact ⟨rfl, hm.out⟩
theorem ixr_any (w : World) (r : Nat) (h1 : 128 ≤ r) (hv : r < 55296 ∨ 57343 < r ∧ r ≤ 1114111) : Calls Tryz.prog 130 #[.string signs, .int .i32 (r : Int)] w fun e w' => e = .returned (.int .i64 (-1)) ∧ Mod none_ w w' := by
  by_cases h : r = 65533
  · subst h; exact ixr_err w
  · exact ixr_wide w r h1 hv h
end Go.Proofs.YtimlfdihodoolaaGreat
