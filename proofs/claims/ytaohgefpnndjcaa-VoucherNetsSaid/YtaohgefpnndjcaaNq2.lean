import Derived.Test.YtaohgefpnndjcaaNq1
import Derived.Lib.Hide
import Derived.Carry
import Derived.WalkKit
import Derived.Laws.BitsAllLaws
import Derived.Laws.BitsLemmas
import Derived.Lib.SlBytesConst
import Derived.Lib.MinMax
/-
  A chart in memory; the contracts of chart.New and Get.
-/
namespace Go.Proofs.Ytaohgefpnndjcaa
set_option linter.unusedVariables false
open Go.RowKit
/-- a chart: the struct's block p, its map's block b, its accounts -/
def ChAt (w : World) (p b : Nat) (C : List Ac) : Prop := Blk w p 69 #[.map (some b)] ∧ MapAt w 9 b (ents C) ∧ p ≠ b
section
variable {F : Nat → Prop} {w w' : World} {p b : Nat} {C : List Ac}
theorem ChAt.mod (h : ChAt w p b C) (hm : Mod F w w') (hp : ¬ F p) (hb : ¬ F b) : ChAt w' p b C := ⟨h.1.mod hm hp, h.2.1.mod hm hb, h.2.2⟩
theorem ChAt.mod0 (h : ChAt w p b C) (hm : Mod none_ w w') : ChAt w' p b C := h.mod hm (fun h => h) (fun h => h)
theorem ChAt.alloc (h : ChAt w p b C) (o : Obj) : ChAt (w.alloc o) p b C := h.mod0 ((Mod.refl _ _).alloc o)
theorem ChAt.sorted (h : ChAt w p b C) : SortedC C := (sortedC_iff C).1 (h.2.1.sorted Try.underlying9)
end
theorem results_cell2 {fn : Func} {p u : Tmp} {ty : TypeId} (h : fn.results = #[.cell p ty, .tmp u]) (tmps : Array Value) (w : World) (g : Nat) (cs : Array Value)
    (hp : tmps.getD p undef = .pointer (some ⟨g, 0, none⟩)) (hl : (loadVar ty ⟨g, 0, none⟩).run Try.prog w = .ok (.agg cs) w) :
    (results fn tmps).run Try.prog w = .ok (.tuple #[.agg cs, tmps.getD u undef]) w := by
  have hp' : tmps[p]?.getD undef = .pointer (some ⟨g, 0, none⟩) := by simpa using hp
  simp [results, h, hp', asAddr, hl]
def NewPost (w : World) (e : Ending) (w' : World) : Prop := ∃ p b, e = .returned (.pointer (some ⟨p, 0, none⟩)) ∧ ChAt w' p b [] ∧ Mod none_ w w' ∧ w.heap.size ≤ p ∧ w.heap.size ≤ b
set_option maxRecDepth 100000 in
theorem new_ok (w : World) : Calls Try.prog 25 #[] w (NewPost w) := by
  go_enter Try.func25, Try.ntmps25
  have hmk := fun W => run_makeMap (P := Try.prog) 67 W
  go_wp2_with fail
  go_ret
  have e1 : (w.alloc (.map #[] 0)).heap.size = w.heap.size + 1 := by simp
  refine ⟨w.heap.size + 1, w.heap.size, rfl, ⟨?_, ?_, by omega⟩, ((Mod.refl _ _).alloc _).alloc _, by omega, Nat.le_refl _⟩
  · have := Blk.new (w.alloc (.map #[] 0)) 69 #[.map (some w.heap.size)]
    rw [e1] at this; exact this
  · exact (MapAt.made w _).alloc _
def zeroA : Value := .agg #[.string ⟨#[]⟩, .int .i64 0, .int .i64 0, .int .i64 0]
def getV (C : List Ac) (s : List UInt8) : Value × Int := match getC C s with | some a => (acV a, 0) | none => (zeroA, 6)
def GetPost (r : Value × Int) (w : World) (e : Ending) (w' : World) : Prop := e = .returned (.tuple #[r.1, .int .i64 r.2]) ∧ Mod none_ w w'
set_option maxRecDepth 100000 in
theorem zeroA_run (w : World) : (zeroValue 46).run Try.prog w = .ok zeroA w := by rfl
theorem acct_size : (Try.prog.info? 46).map (·.size) = some 4 := by kernel_rfl
/-- the end of a function whose first result is an account in a block -/
theorem ret_acct {fn : Func} {p u : Tmp} (h : fn.results = #[.cell p 46, .tmp u]) {a : Act} {w : World} {R : Ending → World → Prop} (g : Nat) (cs : Array Value) (hp : a.tmps.getD p undef = .pointer (some ⟨g, 0, none⟩))
    (hg : Blk w g 46 cs) (hs : cs.size = 4) (hd : a.defers = []) (hR : R (.returned (.tuple #[.agg cs, a.tmps.getD u undef])) w) : bodyPost Try.prog fn R .ret a w :=
  bodyPost_ret (results_cell2 h a.tmps w g cs hp (run_loadVar_row w g _ _ cs _ _ hg Try.underlying46 rfl (by rw [hs]; exact acct_size))) hd hR
set_option maxRecDepth 100000 in
theorem get_nil (w : World) (s : ByteArray) : Calls Try.prog 27 #[.pointer none, .string s] w (GetPost (zeroA, 1) w) := by
  go_enter Try.func27, Try.ntmps27
  go_wp2_with fail
  refine ret_acct rfl w.heap.size _ rfl (Blk.new _ _ _) rfl rfl ⟨rfl, (Mod.refl _ _).alloc _⟩
set_option maxRecDepth 100000 in
theorem get_ok (w : World) (p b : Nat) (C : List Ac) (s : ByteArray) (hc : ChAt w p b C) (hs : s.size ≤ maxLen) : Calls Try.prog 27 #[.pointer (some ⟨p, 0, none⟩), .string s] w (GetPost (getV C s.data.toList) w) := by
  have hp := hc.1.lt
  have hcell : w.cell? ⟨p, 0, none⟩ = some (.map (some b)) := hc.1.cell_ rfl
  have hf := find_ents C s.data.toList
  unfold getV
  cases hg : getC C s.data.toList with
  | none =>
    rw [hg] at hf
    replace hc := Lib.hid hc
    replace hs := Lib.hid hs
    replace hf := Lib.hid hf
    replace hg := Lib.hid hg
    go_enter Try.func27, Try.ntmps27
    go_wp2_with (refine map_look_ok _ rfl (.tmp 15) (.tmp 16) _ rfl 9 46 Try.underlying67 Try.underlying9 (zeroA_run _) b _ rfl (hc.out.2.1.alloc _) s hs.out rfl ?_; rw [hf.out]; simp only [Option.map_none, Option.getD_none, Option.isSome_none, zeroA])
    exact ret_acct rfl w.heap.size _ rfl ((Blk.new _ _ _).alloc _) rfl rfl ⟨rfl, ((Mod.refl _ _).alloc _).alloc _⟩
  | some a =>
    rw [hg] at hf
    replace hc := Lib.hid hc
    replace hs := Lib.hid hs
    replace hf := Lib.hid hf
    replace hg := Lib.hid hg
    go_enter Try.func27, Try.ntmps27
    go_wp2_with (refine map_look_ok _ rfl (.tmp 15) (.tmp 16) _ rfl 9 46 Try.underlying67 Try.underlying9 (zeroA_run _) b _ rfl (hc.out.2.1.alloc _) s hs.out rfl ?_; rw [hf.out]; simp only [Option.map_some, Option.getD_some, Option.isSome_some, acV])
    exact ret_acct rfl w.heap.size _ rfl ((Blk.new _ _ _).alloc _) rfl rfl ⟨rfl, ((Mod.refl _ _).alloc _).alloc _⟩
end Go.Proofs.Ytaohgefpnndjcaa
/-
  The bit operations of Go on unsigned numbers, as operations on natural numbers. No condition.
-/
namespace Go.Proofs.Ytaohgefpnndjcaa
set_option linter.unusedVariables false
theorem ofInt_nat (n a : Nat) (ha : a < 2 ^ n) : (BitVec.ofInt n (a : Int)).toNat = a := by
  rw [BitVec.ofInt_natCast, BitVec.toNat_ofNat]; exact Nat.mod_eq_of_lt ha
theorem bx8 (a b : Nat) (ha : a < 256) (hb : b < 256) : bits .xor .u8 (a : Int) (b : Int) = ((a ^^^ b : Nat) : Int) := by
  have hx : a ^^^ b < 2 ^ 8 := Nat.xor_lt_two_pow (by omega) (by omega)
  show IntKind.u8.wrap ((BitVec.ofInt 8 (a : Int) ^^^ BitVec.ofInt 8 (b : Int)).toNat : Int) = _
  rw [BitVec.toNat_xor, ofInt_nat 8 a (by omega), ofInt_nat 8 b (by omega), IntKind.wrap_u8]
  omega
theorem bx32 (a b : Nat) (ha : a < 4294967296) (hb : b < 4294967296) : bits .xor .u32 (a : Int) (b : Int) = ((a ^^^ b : Nat) : Int) := by
  have hx : a ^^^ b < 2 ^ 32 := Nat.xor_lt_two_pow (by omega) (by omega)
  show IntKind.u32.wrap ((BitVec.ofInt 32 (a : Int) ^^^ BitVec.ofInt 32 (b : Int)).toNat : Int) = _
  rw [BitVec.toNat_xor, ofInt_nat 32 a (by omega), ofInt_nat 32 b (by omega), IntKind.wrap_u32]
  omega
theorem ba32 (a b : Nat) (ha : a < 4294967296) (hb : b < 4294967296) : bits .and .u32 (a : Int) (b : Int) = ((a &&& b : Nat) : Int) := by
  have hx : a &&& b < 2 ^ 32 := Nat.and_lt_two_pow _ (by omega)
  show IntKind.u32.wrap ((BitVec.ofInt 32 (a : Int) &&& BitVec.ofInt 32 (b : Int)).toNat : Int) = _
  rw [BitVec.toNat_and, ofInt_nat 32 a (by omega), ofInt_nat 32 b (by omega), IntKind.wrap_u32]
  omega
theorem bo32 (a b : Nat) (ha : a < 4294967296) (hb : b < 4294967296) : bits .or .u32 (a : Int) (b : Int) = ((a ||| b : Nat) : Int) := by
  have hx : a ||| b < 2 ^ 32 := Nat.or_lt_two_pow (by omega) (by omega)
  show IntKind.u32.wrap ((BitVec.ofInt 32 (a : Int) ||| BitVec.ofInt 32 (b : Int)).toNat : Int) = _
  rw [BitVec.toNat_or, ofInt_nat 32 a (by omega), ofInt_nat 32 b (by omega), IntKind.wrap_u32]
  omega
theorem bo_i64 (a b : Nat) (ha : a < 9223372036854775808) (hb : b < 9223372036854775808) : bits .or .i64 (a : Int) (b : Int) = ((a ||| b : Nat) : Int) := by
  have hx : a ||| b < 2 ^ 63 := Nat.or_lt_two_pow (by omega) (by omega)
  show IntKind.i64.wrap ((BitVec.ofInt 64 (a : Int) ||| BitVec.ofInt 64 (b : Int)).toNat : Int) = _
  rw [BitVec.toNat_or, ofInt_nat 64 a (by omega), ofInt_nat 64 b (by omega), IntKind.wrap_i64]
  omega
/-- Two numbers that share no bit. -/
theorem or_add (a b k : Nat) (hb : b < 2 ^ k) : (a * 2 ^ k) ||| b = a * 2 ^ k + b := by
  rw [Nat.mul_comm]; exact (Nat.two_pow_add_eq_or_of_lt hb a).symm
end Go.Proofs.Ytaohgefpnndjcaa
/-
  Coins, the plain side: signs of bit operations; sums that are in range. No condition.
-/
namespace Go.Proofs.Ytaohgefpnndjcaa
set_option linter.unusedVariables false
open Go.RowKit
def inI (x : Int) : Bool := decide (-9223372036854775808 ≤ x) && decide (x ≤ 9223372036854775807)
theorem inI_yes {x : Int} : inI x = true ↔ -9223372036854775808 ≤ x ∧ x ≤ 9223372036854775807 := by simp [inI]
/-- A sum, or that it is none. -/
def sumR (x : Int) : Int × Nat := if inI x then (x, 0) else (0, 2)
theorem sumR_yes {x : Int} (h : inI x = true) : sumR x = (x, 0) := by simp [sumR, h]
theorem sumR_no {x : Int} (h : inI x = false) : sumR x = (0, 2) := by simp [sumR, h]
theorem wrap_toInt (x : BitVec 64) : IntKind.i64.wrap (x.toNat : Int) = x.toInt := by
  rw [IntKind.wrap_i64, BitVec.toInt_eq_toNat_cond]
  have := x.isLt
  split <;> omega
theorem msb_of (a : Int) (h1 : -9223372036854775808 ≤ a) (h2 : a ≤ 9223372036854775807) : (BitVec.ofInt 64 a).msb = decide (a < 0) := by
  have e : (BitVec.ofInt 64 a).toInt = a := by rw [BitVec.toInt_ofInt]; exact Int.bmod_eq_of_le (by omega) (by omega)
  rw [BitVec.msb_eq_toInt, e]
theorem toInt_neg (x : BitVec 64) : decide (x.toInt < 0) = x.msb := (BitVec.msb_eq_toInt).symm
theorem toInt_in (x : BitVec 64) : -9223372036854775808 ≤ x.toInt ∧ x.toInt ≤ 9223372036854775807 := by
  have h1 := BitVec.le_toInt x
  have h2 := BitVec.toInt_lt (x := x)
  simp at h1 h2
  omega
theorem xor_sign (a b : Int) (ha1 : -9223372036854775808 ≤ a) (ha2 : a ≤ 9223372036854775807) (hb1 : -9223372036854775808 ≤ b) (hb2 : b ≤ 9223372036854775807) :
    (-9223372036854775808 ≤ bits .xor .i64 a b ∧ bits .xor .i64 a b ≤ 9223372036854775807) ∧ decide (bits .xor .i64 a b < 0) = (decide (a < 0) ^^ decide (b < 0)) := by
  have e : bits .xor .i64 a b = (BitVec.ofInt 64 a ^^^ BitVec.ofInt 64 b).toInt := wrap_toInt _
  rw [e]
  refine ⟨toInt_in _, ?_⟩
  rw [toInt_neg, BitVec.msb_xor, msb_of a ha1 ha2, msb_of b hb1 hb2]
theorem and_sign (a b : Int) (ha1 : -9223372036854775808 ≤ a) (ha2 : a ≤ 9223372036854775807) (hb1 : -9223372036854775808 ≤ b) (hb2 : b ≤ 9223372036854775807) :
    decide (bits .and .i64 a b < 0) = (decide (a < 0) && decide (b < 0)) := by
  have e : bits .and .i64 a b = (BitVec.ofInt 64 a &&& BitVec.ofInt 64 b).toInt := wrap_toInt _
  rw [e, toInt_neg, BitVec.msb_and, msb_of a ha1 ha2, msb_of b hb1 hb2]
/-- 'c := a + b; (a^c)&(b^c) < 0' says that a + b runs over. -/
theorem add_over (a b : Int) (ha1 : -9223372036854775808 ≤ a) (ha2 : a ≤ 9223372036854775807) (hb1 : -9223372036854775808 ≤ b) (hb2 : b ≤ 9223372036854775807) :
    decide (bits .and .i64 (bits .xor .i64 a (wrap64 (a + b))) (bits .xor .i64 b (wrap64 (a + b))) < 0) = !(inI (a + b)) := by
  have hw : wrap64 (a + b) = IntKind.i64.wrap (a + b) := by rw [IntKind.wrap_i64]; unfold wrap64; rfl
  have hc : -9223372036854775808 ≤ wrap64 (a + b) ∧ wrap64 (a + b) ≤ 9223372036854775807 := by rw [hw, IntKind.wrap_i64]; omega
  obtain ⟨⟨x1, x2⟩, x3⟩ := xor_sign a _ ha1 ha2 hc.1 hc.2
  obtain ⟨⟨y1, y2⟩, y3⟩ := xor_sign b _ hb1 hb2 hc.1 hc.2
  rw [and_sign _ _ x1 x2 y1 y2, x3, y3, Bool.eq_iff_iff]
  rw [hw, IntKind.wrap_i64]
  simp only [Bool.and_eq_true, bne_iff_ne, ne_eq, Bool.not_eq_true', inI, Bool.and_eq_false_iff, decide_eq_false_iff_not, decide_eq_decide]
  omega
theorem sub_over (a b : Int) (ha1 : -9223372036854775808 ≤ a) (ha2 : a ≤ 9223372036854775807) (hb1 : -9223372036854775808 ≤ b) (hb2 : b ≤ 9223372036854775807) :
    decide (bits .and .i64 (bits .xor .i64 a b) (bits .xor .i64 a (wrap64 (a - b))) < 0) = !(inI (a - b)) := by
  have hw : wrap64 (a - b) = IntKind.i64.wrap (a - b) := by rw [IntKind.wrap_i64]; unfold wrap64; rfl
  have hc : -9223372036854775808 ≤ wrap64 (a - b) ∧ wrap64 (a - b) ≤ 9223372036854775807 := by rw [hw, IntKind.wrap_i64]; omega
  obtain ⟨⟨x1, x2⟩, x3⟩ := xor_sign a _ ha1 ha2 hc.1 hc.2
  obtain ⟨⟨y1, y2⟩, y3⟩ := xor_sign a b ha1 ha2 hb1 hb2
  rw [and_sign _ _ y1 y2 x1 x2, x3, y3, Bool.eq_iff_iff]
  rw [hw, IntKind.wrap_i64]
  simp only [Bool.and_eq_true, bne_iff_ne, ne_eq, Bool.not_eq_true', inI, Bool.and_eq_false_iff, decide_eq_false_iff_not, decide_eq_decide]
  omega
/-- A sum without its sign. -/
def mag (a : Int) : Nat := a.natAbs
theorem mag_le {a : Int} (ha1 : -9223372036854775808 ≤ a) (ha2 : a ≤ 9223372036854775807) : mag a ≤ 9223372036854775808 := by unfold mag; omega
end Go.Proofs.Ytaohgefpnndjcaa
/-
  More words for memory: a new block that reads as a list; a slice expression of bytes; strings of bytes; where rows lie apart. No condition.
-/
namespace Go.Proofs.Ytaohgefpnndjcaa
set_option linter.unusedVariables false
open Go.RowKit
theorem rdn (w : World) (e : TypeId) (size n g : Nat) (cs : Array Value) (fr : Nat × Nat) (hg : g = w.heap.size) (hs : cs.size = n * size) : Rd (w.alloc (.cells cs e fr)) size (some ⟨g, 0, none⟩) n cs.toList := by
  subst hg
  refine ⟨by simpa using hs, fun _ => ⟨_, rfl, fun j u hu => ?_⟩⟩
  rw [add_lit, World.cell?_alloc_mark]
  simpa using hu
theorem rdb_take {A : Option Addr} {w : World} {n : Nat} {l : List UInt8} (h : RdB w A n l) {k : Nat} (hk : k ≤ n) : RdB w A k (l.take k) := by
  have := Rd.take_ h hk
  rwa [Nat.mul_one, ← bvs_take] at this
theorem rdb_drop {A : Option Addr} {w : World} {n c : Nat} {l : List UInt8} (h : RdB w A n l) {k : Nat} (hk : k ≤ n) (hc : n ≤ c) : RdB w (if c = k then A else A.map (·.add k)) (n - k) (l.drop k) := by
  have := Rd.drop_ h hk hc
  rwa [Nat.mul_one, ← bvs_drop] at this
theorem wrap_u64_lt (n : Int) : 0 ≤ IntKind.u64.wrap n ∧ IntKind.u64.wrap n < 18446744073709551616 := by
  rw [IntKind.wrap_u64]; omega
/-- 'int(uint(x) % uint(m))'. -/
theorem umod (x m : Int) (h0 : 0 < m) (h1 : m ≤ 4611686018427387904) : ∃ k : Nat, (k : Int) < m ∧ wrap64 ((IntKind.u64.wrap x).tmod m) = (k : Int) := by
  have hx := (wrap_u64_lt x).1
  generalize IntKind.u64.wrap x = q at hx
  have e : q.tmod m = q % m := Int.tmod_eq_emod_of_nonneg hx
  have l1 := Int.emod_nonneg q (b := m) (by omega)
  have l2 := Int.emod_lt_of_pos q h0
  refine ⟨(q % m).toNat, by omega, ?_⟩
  rw [e, IntWalk.wrap64_in _ ⟨by omega, by omega⟩]
  omega
theorem Ow.ne_ow {w : World} {e e' : TypeId} {s s' n n' c c' : Nat} {A A' : Option Addr} {xs xs' : List Value} (h : Ow w e s A n c xs) (h' : Ow w e' s' A' n' c' xs') (hne : e ≠ e') : ∀ k, fp A k → ¬ fp A' k := by
  rintro k ⟨a, ha, rfl⟩ ⟨b, hb, hab⟩
  rcases h.2.2.2 with ⟨h4, _⟩ | ⟨g, cur, h4, hg, _⟩
  · rw [h4] at ha; cases ha
  · rw [h4] at ha; cases ha
    rcases h'.2.2.2 with ⟨h4, _⟩ | ⟨g', cur', h4, hg', _⟩
    · rw [h4] at hb; cases hb
    · rw [h4] at hb; cases hb
      simp only at hab
      subst hab
      exact hg.ne_ hg' hne rfl
theorem Fresh.apart {w : World} {A : Option Addr} (h : Fresh w A) {F : Nat → Prop} (hF : ∀ k, F k → k < w.heap.size) : ∀ k, fp A k → ¬ F k := by
  rintro k ⟨a, ha, rfl⟩ hf
  have := h a ha
  have := hF _ hf
  omega
theorem Fresh.later {w w1 : World} {A : Option Addr} (h : Fresh w1 A) (hs : w.heap.size ≤ w1.heap.size) : Fresh w A := fun a ha => Nat.le_trans hs (h a ha)

/- LISTS OF UNIFORM CELLS. -/
theorem flat_length {α : Type} (f : α → List Value) (size : Nat) (hf : ∀ e, (f e).length = size) (es : List α) : (es.flatMap f).length = es.length * size := by
  induction es with
  | nil => simp
  | cons e es ih => rw [List.flatMap_cons, List.length_append, ih, hf, List.length_cons, Nat.succ_mul]; omega
theorem flat_get {α : Type} (f : α → List Value) (size : Nat) (hf : ∀ e, (f e).length = size) : ∀ (es : List α) (j : Nat) (e : α), es[j]? = some e → ∀ i, i < size → (es.flatMap f)[j * size + i]? = (f e)[i]? := by
  intro es
  induction es with
  | nil => intro j e h; simp at h
  | cons x es ih =>
    intro j e h i hi
    cases j with
    | zero =>
      simp at h; subst h
      rw [List.flatMap_cons, List.getElem?_append_left (by rw [hf]; omega)]
      simp
    | succ j =>
      rw [List.flatMap_cons, List.getElem?_append_right (by rw [hf, Nat.succ_mul]; omega), hf]
      have e1 : (j + 1) * size + i - size = j * size + i := by rw [Nat.succ_mul]; omega
      rw [e1]
      exact ih j e (by simpa using h) i hi

/-- A slice's value. -/
structure SV where
  a : Option Addr
  n : Nat
  c : Nat
def SV.v (s : SV) : Value := .slice s.a s.n s.c
/-- A list of texts of bytes: their slices' values ss, what they hold ls. 'Bd': all lie below that block. -/
def Txts (w : World) (Bd : Nat) (ss : List SV) (ls : List (List UInt8)) : Prop :=
  ss.length = ls.length ∧ ∀ (i : Nat) (s : SV) (l : List UInt8), ss[i]? = some s → ls[i]? = some l → RdB w s.a s.n l ∧ s.n ≤ s.c ∧ s.c ≤ 140737488351232 ∧ (0 < s.n → ∀ k, fp s.a k → k < Bd)
section
variable {w w' : World} {Bd : Nat} {ss : List SV} {ls : List (List UInt8)}
theorem Txts.mod {F : Nat → Prop} (h : Txts w Bd ss ls) (hm : Mod F w w') (hF : ∀ k, F k → Bd ≤ k) : Txts w' Bd ss ls :=
  ⟨h.1, fun i s l hs hl => by
    obtain ⟨h1, h2, h3, h4⟩ := h.2 i s l hs hl
    exact ⟨h1.mod' hm fun h0 k hk hf => by have := hF k hf; have := h4 h0 k hk; omega, h2, h3, h4⟩⟩
theorem Txts.mod0 (h : Txts w Bd ss ls) (hm : Mod none_ w w') : Txts w' Bd ss ls := h.mod (F := none_) hm fun _ hf => False.elim hf
theorem Txts.more {B' : Nat} (h : Txts w Bd ss ls) (hB : Bd ≤ B') : Txts w B' ss ls :=
  ⟨h.1, fun i s l hs hl => by
    obtain ⟨h1, h2, h3, h4⟩ := h.2 i s l hs hl
    exact ⟨h1, h2, h3, fun h0 k hk => Nat.lt_of_lt_of_le (h4 h0 k hk) hB⟩⟩
theorem Txts.nil : Txts w Bd [] [] := ⟨rfl, fun i s l hs _ => by simp at hs⟩
theorem Txts.snoc (h : Txts w Bd ss ls) {s : SV} {l : List UInt8} (h1 : RdB w s.a s.n l) (h2 : s.n ≤ s.c) (h3 : s.c ≤ 140737488351232) (h4 : 0 < s.n → ∀ k, fp s.a k → k < Bd) : Txts w Bd (ss ++ [s]) (ls ++ [l]) := by
  refine ⟨by simp [h.1], fun i s' l' hs hl => ?_⟩
  by_cases hi : i < ss.length
  · rw [List.getElem?_append_left hi] at hs
    rw [List.getElem?_append_left (by rw [← h.1]; exact hi)] at hl
    exact h.2 i s' l' hs hl
  · rw [List.getElem?_append_right (by omega)] at hs
    rw [List.getElem?_append_right (by rw [← h.1]; omega), ← h.1] at hl
    have e : i - ss.length = 0 := by
      rcases Nat.lt_or_ge (i - ss.length) 1 with h5 | h5
      · omega
      · rw [List.getElem?_eq_none (by simpa using h5)] at hs; cases hs
    rw [e] at hs hl
    simp at hs hl
    subst hs hl
    exact ⟨h1, h2, h3, h4⟩
theorem Txts.take_ (h : Txts w Bd ss ls) (k : Nat) : Txts w Bd (ss.take k) (ls.take k) := by
  refine ⟨by rw [List.length_take, List.length_take, h.1], fun i s l hs hl => ?_⟩
  rw [List.getElem?_take] at hs hl
  by_cases hi : i < k
  · rw [if_pos hi] at hs hl
    exact h.2 i s l hs hl
  · rw [if_neg hi] at hs
    cases hs
end
end Go.Proofs.Ytaohgefpnndjcaa
