import Derived.Test.YtdnbclhidpkpgaaGreatKp1
import Derived.WalkKit
import Derived.Laws.BitsAllLaws
import Derived.Laws.BitsLemmas
import Derived.Test.YtdnbclhidpkpgaaGreatRows
import Derived.StillTailTactics
import Derived.Deep.RegionHeld3
import Derived.Handy
import Derived.Deep.DeepCutAuto
/-
  Contracts of slices.Grow from nil and slices.Concat of two. No condition.
-/
namespace Go.Proofs.YtdnbclhidpkpgaaGreat
set_option linter.unusedVariables false
set_option linter.unusedSimpArgs false
open Go.RowKit

theorem run_append_zeros_nil {P : Program} (w : World) (t u ty e : TypeId) (k : IntKind) (i : TypeInfo) (z : Value) (ht : P.underlying t = some (.slice e)) (hu : P.underlying u = some (.int k)) (hi : P.info? e = some i) (hz : i.zero = some z)
    (n : Nat) (h0 : 0 < n) (h48 : n * i.bytes ≤ 281474976710656) (h63 : (n : Int) ≤ 9223372036854775807) (hs : 0 < i.size) :
    (Builtin.append_ #[t, u] ty #[.slice none 0 0, .int k (n : Int)]).run P w =
      .ok (.slice (some ⟨w.heap.size, 0, none⟩) n (grownCap w n 0 e)) (w.drew.alloc (.cells (Builtin.zeroCells z.cells n ++ Builtin.zeroCells z.cells (grownCap w n 0 e - n)) e)) := by
  have hn : n ≠ 0 := by omega
  have hw : IntKind.i64.wrap (n : Int) = n := IntWalk.i64_in _ (by omega)
  have h63' : ¬ (9223372036854775807 < (n : Int)) := by omega
  have h48' : ¬ (281474976710656 < Builtin.nextslicecap n 0 * i.bytes) := by rw [nextslicecap_zero h0]; omega
  have h48i : ¬ ((281474976710656 : Int) < (n : Int) * (i.bytes : Int)) := by
    have : ((n * i.bytes : Nat) : Int) ≤ 281474976710656 := by omega
    rw [Int.natCast_mul] at this
    omega
  have hneg : ¬ ((n : Int) < 0) := by omega
  have hns : ¬ n * i.size = 0 := Nat.ne_of_gt (Nat.mul_pos h0 hs)
  simp [Builtin.append_, run_underlying ht, run_underlying hu, sizeOf, typeInfo, zeroValue, hi, hz, Builtin.lenOf, hn, hw, asInt, asIntOf, hneg, h48i, h63', h48', hns, Question.forced, run_firstCells_none, newRow, grownCap]

theorem wpList_append_zeros_nil {P : Program} {w : World} {ops : Array Oper} {rest : List Oper} {o : Oper} {a : Act} {Q : Exit → Act → World → Prop} (hgd : o.guard = none) (s x : Operand) (t u : TypeId)
    (ho : o.op = .call { callee := .builtin .append, args := #[s, x], argTypes := #[t, u] }) (e : TypeId) (k : IntKind) (i : TypeInfo) (z : Value) (ht : P.underlying t = some (.slice e)) (hu : P.underlying u = some (.int k)) (hi : P.info? e = some i) (hz : i.zero = some z)
    (n : Nat) (h0 : 0 < n) (h48 : n * i.bytes ≤ 281474976710656) (h63 : (n : Int) ≤ 9223372036854775807) (hsz : 0 < i.size) (hs : a.eval s = .slice none 0 0) (hx : a.eval x = .int k (n : Int))
    (h : wpList P ops Q rest (a.put o.dst (.slice (some ⟨w.heap.size, 0, none⟩) n (grownCap w n 0 e))) (w.drew.alloc (.cells (Builtin.zeroCells z.cells n ++ Builtin.zeroCells z.cells (grownCap w n 0 e - n)) e))) :
    wpList P ops Q (o :: rest) a w :=
  wpList_plain hgd fun _ hK => by
    unfold Oper.wp execOp
    simp only [ho, resolve, invoke, builtin, Sem.run_bind, Sem.run_pure, Result.andThen_ok, List.map_toArray, List.map_cons, List.map_nil, hs, hx, run_append_zeros_nil w t u o.type e k i z ht hu hi hz n h0 h48 h63 hsz]
    exact hK _ _ h

set_option maxRecDepth 100000 in
/-- What Grow leaves: an empty row with room. -/
theorem grow_ok (w : World) (n : Nat) (hn : n ≤ 140737488355328) : Calls Tryz.prog 84 #[.slice none 0 0, .int .i64 (n : Int)] w fun e w' =>
    ∃ A' c', e = .returned (.slice A' 0 c') ∧ OwB w' 5 A' 0 c' [] ∧ Fresh w A' ∧ Mod none_ w w' := by
  obtain ⟨i0, hi, hz0, hz1, hz2⟩ := info_parts u8info
  rcases Nat.eq_zero_or_pos n with h0 | h0
  · subst h0
    go_enter Tryz.func84, Tryz.ntmps84
    go_wp2
    go_ret
    exact ⟨none, 0, rfl, Ow.nil _ _ _, (fun _ h => by cases h), Mod.refl _ _⟩
  · have hg1 := grownCap_le_maxLen w n 0 5 (by simp only [maxLen]; omega)
    have hg0 := grownCap_ge w n 0 5
    have hcl : ∀ c, c = grownCap w n 0 5 → c ≤ 9223372036854775807 := fun c hc => by rw [hc]; simpa [maxLen] using hg1
    go_enter Tryz.func84, Tryz.ntmps84
    go_wp2_with (at_builtin; refine wpList_append_zeros_nil rfl (.tmp 20) (.tmp 21) 22 3 rfl 5 .i64 i0 _ Tryz.underlying22 Tryz.underlying3 hi hz0 n h0 (by rw [hz2]; omega) (by omega) (by omega) rfl rfl ?_)
    go_ret
    refine ⟨some ⟨w.heap.size, 0, none⟩, grownCap w n 0 5, rfl, ⟨rfl, Nat.zero_le _, hg1, .inr ⟨w.heap.size, _, rfl, heap_alloc_new w.drew _, ?_, by simp [bvs]⟩⟩, ?_, ((Mod.refl none_ w).drew).alloc _⟩
    · simp only [Array.size_append, size_zeroCells, List.size_toArray, List.length_cons, List.length_nil]
      omega
    · intro a ha; cases ha; exact Nat.le_refl _

def pre2 (n1 n2 j : Nat) : Nat := if j = 0 then 0 else if j = 1 then n1 else n1 + n2
def cat2 (l1 l2 : List UInt8) (j : Nat) : List UInt8 := if j = 0 then [] else if j = 1 then l1 else l1 ++ l2
def CatRel (w : World) (n1 n2 : Nat) (l1 l2 : List UInt8) (j : Nat) (v : Value) (wr : World) : Prop :=
  ∃ A' c', v = .slice A' (pre2 n1 n2 j) c' ∧ OwB wr 5 A' (pre2 n1 n2 j) c' (cat2 l1 l2 j) ∧ Fresh w A' ∧ Mod none_ w wr
theorem CatRel.next {w wr w1 : World} {n1 n2 j k : Nat} {l1 l2 b : List UInt8} {A A' : Option Addr} {c' : Nat} (hF : Fresh w A) (hm : Mod none_ w wr)
    (hown : Ow w1 5 1 A' (pre2 n1 n2 j + k) c' (bvs (cat2 l1 l2 j) ++ bvs b)) (hmod : Mod (fp A) wr w1) (hA : A' = A ∨ A' = some ⟨wr.heap.size, 0, none⟩)
    (e1 : pre2 n1 n2 (j + 1) = pre2 n1 n2 j + k) (e2 : cat2 l1 l2 (j + 1) = cat2 l1 l2 j ++ b) : CatRel w n1 n2 l1 l2 (j + 1) (.slice A' (pre2 n1 n2 j + k) c') w1 := by
  refine ⟨A', c', by rw [e1], ?_, ?_, hm.then hmod fun i hi hf => ?_⟩
  · rw [e1, e2]
    show Ow _ _ _ _ _ _ (bvs _)
    rw [bvs_append]; exact hown
  · rintro a ha
    rcases hA with rfl | rfl
    · exact hF a ha
    · cases ha; exact hm.size
  · obtain ⟨a, ha, rfl⟩ := hf
    have := hF a ha
    omega

set_option maxRecDepth 100000 in
set_option maxHeartbeats 1000000 in
/-- Two texts of bytes, one behind the other. -/
theorem concat2_ok (w : World) (g : Nat) (B1 B2 : Option Addr) (n1 n2 d1 d2 : Nat) (l1 l2 : List UInt8) (hb : Rd w 1 (some ⟨g, 0, none⟩) 2 [.slice B1 n1 d1, .slice B2 n2 d2]) (h1 : RdB w B1 n1 l1) (h2 : RdB w B2 n2 l2) (hn : n1 + n2 ≤ 140737488355328) :
    Calls Tryz.prog 48 #[.slice (some ⟨g, 0, none⟩) 2 2] w fun e w' =>
    ∃ A' c', e = .returned (.slice A' (n1 + n2) c') ∧ OwB w' 5 A' (n1 + n2) c' (l1 ++ l2) ∧ Fresh w A' ∧ Mod none_ w w' := by
  obtain ⟨i0, hi, hz0, hz1, hz2⟩ := info_parts u8info
  obtain ⟨b, o, hbo, hc⟩ := hb.form (by omega) (by omega)
  cases hbo
  have c0 : w.cell? ⟨g, 0, none⟩ = some (.slice B1 n1 d1) := hc 0 _ rfl
  have c1 : w.cell? ⟨g, 1, none⟩ = some (.slice B2 n2 d2) := hc 1 _ rfl
  have H1 := Lib.hid h1
  have H2 := Lib.hid h2
  clear hb hc h1 h2
  go_enter Tryz.func48, Tryz.ntmps48
  go_wp2_with fail
  go_loop [3, 11] (fun s i => ∃ j : Nat, i = .int .i64 j ∧ s = .int .i64 (pre2 n1 n2 j : Nat) ∧ j ≤ 2) (fun _ i => 2 - (intOf i).toNat)
  case atStart => exact ⟨0, rfl, rfl, by omega⟩
  case round =>
    obtain ⟨j, rfl, rfl, hj⟩ := hrel
    by_cases j0 : j = 0
    · subst j0
      have e1 : pre2 n1 n2 0 = 0 := rfl
      go_wp2
      go_round
      case rel => exact ⟨1, rfl, by simp [pre2], by omega⟩
      case measure => simp [intOf]
    · by_cases j1 : j = 1
      · subst j1
        have e1 : pre2 n1 n2 1 = n1 := rfl
        go_wp2
        go_round
        case rel => exact ⟨2, rfl, by simp [pre2], by omega⟩
        case measure => simp [intOf]
      · obtain rfl : j = 2 := by omega
        have e1 : pre2 n1 n2 2 = n1 + n2 := rfl
        clear j0 j1 hj
        go_wp2_with fail
        have gr := grow_ok w (n1 + n2) hn
        rw [Int.natCast_add] at gr
        refine gr.mono ?_
        rintro e w1 ⟨A0, c0', rfl, ho0, hf0, hm0⟩
        have hr0 : CatRel w n1 n2 l1 l2 0 (.slice A0 0 c0') w1 := ⟨A0, c0', rfl, ho0, hf0, hm0⟩
        replace hr0 := Lib.hid hr0
        clear ho0 hf0 hm0 e1
        go_wp2_with fail
        go_loopw [6, 27] (fun v i wr => ∃ j : Nat, i = .int .i64 j ∧ CatRel w n1 n2 l1 l2 j v wr ∧ j ≤ 2) (fun _ i _ => 2 - (intOf i).toNat)
        case atStart => exact ⟨0, rfl, hr0.out, by omega⟩
        case round =>
          obtain ⟨j, rfl, ⟨A', c', rfl, hown, hF, hm⟩, hj⟩ := hrel
          have c0 := hm.cell_some c0 (fun hf => hf)
          have c1 := hm.cell_some c1 (fun hf => hf)
          replace hown := Lib.hid hown
          replace hF := Lib.hid hF
          replace hm := Lib.hid hm
          by_cases j0 : j = 0
          · subst j0
            go_wp2_with (at_builtin; refine wpList_append_ow rfl (.tmp 31) (.tmp 32) 22 rfl 5 i0 _ 1 1 Tryz.underlying22 hi hz0 hz1 hz2 rfl (by omega) A' _ c' (bvs (cat2 l1 l2 0)) rfl hown.out B1 n1 d1 (bvs l1) rfl (Rd.mod0 H1.out hm.out) (bvs_one l1) (by rw [show pre2 n1 n2 0 = 0 from rfl]; omega) (by rw [show pre2 n1 n2 0 = 0 from rfl]; omega) ?_; intro A1 c1' w1 hown1 hmod1 hA1)
            have hnext := CatRel.next (l2 := l2) (n2 := n2) hF.out hm.out hown1 hmod1 hA1 (by simp [pre2]) (by simp [cat2])
            replace hnext := Lib.hid hnext
            clear hown1 hmod1 hA1
            go_wp2
            go_roundw
            case rel => exact ⟨1, rfl, hnext.out, by omega⟩
            case measure => simp [intOf]
          · by_cases j1 : j = 1
            · subst j1
              go_wp2_with (at_builtin; refine wpList_append_ow rfl (.tmp 31) (.tmp 32) 22 rfl 5 i0 _ 1 1 Tryz.underlying22 hi hz0 hz1 hz2 rfl (by omega) A' _ c' (bvs (cat2 l1 l2 1)) rfl hown.out B2 n2 d2 (bvs l2) rfl (Rd.mod0 H2.out hm.out) (bvs_one l2) (by rw [show pre2 n1 n2 1 = n1 from rfl]; omega) (by rw [show pre2 n1 n2 1 = n1 from rfl]; omega) ?_; intro A1 c1' w1 hown1 hmod1 hA1)
              have hnext := CatRel.next hF.out hm.out hown1 hmod1 hA1 (by simp [pre2]) (by simp [cat2])
              replace hnext := Lib.hid hnext
              clear hown1 hmod1 hA1
              go_wp2
              go_roundw
              case rel => exact ⟨2, rfl, hnext.out, by omega⟩
              case measure => simp [intOf]
            · obtain rfl : j = 2 := by omega
              go_wp2
              go_ret
              exact ⟨A', c', rfl, hown.out, hF.out, hm.out⟩
end Go.Proofs.YtdnbclhidpkpgaaGreat
/-
  The bit operations of Go on unsigned numbers, as operations on natural numbers. No condition.
-/
namespace Go.Proofs.YtdnbclhidpkpgaaGreat
set_option linter.unusedVariables false
set_option linter.unusedSimpArgs false
theorem ofInt_nat (n a : Nat) (ha : a < 2 ^ n) : (BitVec.ofInt n (a : Int)).toNat = a := by
  rw [BitVec.ofInt_natCast, BitVec.toNat_ofNat]; exact Nat.mod_eq_of_lt ha
theorem bx8 (a b : Nat) (ha : a < 256) (hb : b < 256) : bits .xor .u8 (a : Int) (b : Int) = ((a ^^^ b : Nat) : Int) := by
  have hx : a ^^^ b < 2 ^ 8 := Nat.xor_lt_two_pow (by omega) (by omega)
  show IntKind.u8.wrap ((BitVec.ofInt 8 (a : Int) ^^^ BitVec.ofInt 8 (b : Int)).toNat : Int) = _
  rw [BitVec.toNat_xor, ofInt_nat 8 a (by omega), ofInt_nat 8 b (by omega), IntKind.wrap_u8]
  omega
theorem bx32 (a b : Nat) (ha : a < 4294967296) (hb : b < 4294967296) : bits .xor .u32 (a : Int) (b : Int) = ((a ^^^ b : Nat) : Int) := by
  have hx : a ^^^ b < 2 ^ 32 := Nat.xor_lt_two_pow (by omega) (by omega)
  show IntKind.u32.wrap ((BitVec.ofInt 32 (a : Int) ^^^ BitVec.ofInt 32 (b : Int)).toNat : Int) = _
  rw [BitVec.toNat_xor, ofInt_nat 32 a (by omega), ofInt_nat 32 b (by omega), IntKind.wrap_u32]
  omega
theorem ba32 (a b : Nat) (ha : a < 4294967296) (hb : b < 4294967296) : bits .and .u32 (a : Int) (b : Int) = ((a &&& b : Nat) : Int) := by
  have hx : a &&& b < 2 ^ 32 := Nat.and_lt_two_pow _ (by omega)
  show IntKind.u32.wrap ((BitVec.ofInt 32 (a : Int) &&& BitVec.ofInt 32 (b : Int)).toNat : Int) = _
  rw [BitVec.toNat_and, ofInt_nat 32 a (by omega), ofInt_nat 32 b (by omega), IntKind.wrap_u32]
  omega
theorem bo32 (a b : Nat) (ha : a < 4294967296) (hb : b < 4294967296) : bits .or .u32 (a : Int) (b : Int) = ((a ||| b : Nat) : Int) := by
  have hx : a ||| b < 2 ^ 32 := Nat.or_lt_two_pow (by omega) (by omega)
  show IntKind.u32.wrap ((BitVec.ofInt 32 (a : Int) ||| BitVec.ofInt 32 (b : Int)).toNat : Int) = _
  rw [BitVec.toNat_or, ofInt_nat 32 a (by omega), ofInt_nat 32 b (by omega), IntKind.wrap_u32]
  omega
theorem bo_i64 (a b : Nat) (ha : a < 9223372036854775808) (hb : b < 9223372036854775808) : bits .or .i64 (a : Int) (b : Int) = ((a ||| b : Nat) : Int) := by
  have hx : a ||| b < 2 ^ 63 := Nat.or_lt_two_pow (by omega) (by omega)
  show IntKind.i64.wrap ((BitVec.ofInt 64 (a : Int) ||| BitVec.ofInt 64 (b : Int)).toNat : Int) = _
  rw [BitVec.toNat_or, ofInt_nat 64 a (by omega), ofInt_nat 64 b (by omega), IntKind.wrap_i64]
  omega
/-- Two numbers that share no bit. -/
theorem or_add (a b k : Nat) (hb : b < 2 ^ k) : (a * 2 ^ k) ||| b = a * 2 ^ k + b := by
  rw [Nat.mul_comm]; exact (Nat.two_pow_add_eq_or_of_lt hb a).symm
end Go.Proofs.YtdnbclhidpkpgaaGreat
/-
  The checksum, as a function on natural numbers; the table, the bitwise form, and that both are one. No condition.
-/
namespace Go.Proofs.YtdnbclhidpkpgaaGreat
set_option linter.unusedVariables false
set_option linter.unusedSimpArgs false
def step1 (h : Nat) : Nat := (h / 2) ^^^ (if h % 2 = 1 then 3988292384 else 0)
def stepN : Nat → Nat → Nat
  | 0, h => h
  | n + 1, h => step1 (stepN n h)
def tabN (i : Nat) : Nat := stepN 8 i
def crcStep (h : Nat) (b : UInt8) : Nat := (h / 256) ^^^ tabN ((h % 256) ^^^ b.toNat)
def crcFold (l : List UInt8) : Nat := l.foldl crcStep 4294967295
def crc (l : List UInt8) : Nat := 4294967295 - crcFold l

theorem xor_div2 (a b : Nat) : (a ^^^ b) / 2 = (a / 2) ^^^ (b / 2) := by
  have := Nat.shiftRight_xor_distrib (a := a) (b := b) (i := 1)
  simpa [Nat.shiftRight_eq_div_pow] using this
theorem xor_mod2 (a b : Nat) : (a ^^^ b) % 2 = (a % 2) ^^^ (b % 2) := by
  have := Nat.xor_mod_two_pow (a := a) (b := b) (n := 1)
  simpa using this
theorem step1_lin (a b : Nat) : step1 (a ^^^ b) = step1 a ^^^ step1 b := by
  unfold step1
  rw [xor_div2, xor_mod2]
  rcases Nat.mod_two_eq_zero_or_one a with h | h <;> rcases Nat.mod_two_eq_zero_or_one b with h' | h' <;> simp [h, h']
  · rw [Nat.xor_assoc]
  · rw [Nat.xor_assoc, Nat.xor_assoc, Nat.xor_comm 3988292384 (b / 2)]
  · rw [Nat.xor_assoc, Nat.xor_comm 3988292384, Nat.xor_assoc, Nat.xor_self, Nat.xor_zero]
theorem stepN_lin (n : Nat) : ∀ a b, stepN n (a ^^^ b) = stepN n a ^^^ stepN n b := by
  induction n with
  | zero => intro a b; rfl
  | succ n ih => intro a b; simp only [stepN, ih, step1_lin]
theorem step1_lt (h : Nat) (hh : h < 4294967296) : step1 h < 4294967296 := by
  unfold step1
  have : (h / 2) ^^^ (if h % 2 = 1 then 3988292384 else 0) < 2 ^ 32 := Nat.xor_lt_two_pow (by omega) (by split <;> omega)
  exact this
theorem stepN_lt (n : Nat) : ∀ h, h < 4294967296 → stepN n h < 4294967296 := by
  induction n with
  | zero => intro h hh; exact hh
  | succ n ih => intro h hh; exact step1_lt _ (ih h hh)
theorem step1_even (h : Nat) : step1 (h * 2) = h := by
  unfold step1
  rw [if_neg (by omega), Nat.xor_zero]
  omega
theorem stepN_shift (n : Nat) : ∀ h, stepN n (h * 2 ^ n) = h := by
  induction n with
  | zero => intro h; simp [stepN]
  | succ n ih =>
    intro h
    have e : h * 2 ^ (n + 1) = (h * 2) * 2 ^ n := by rw [Nat.pow_succ]; rw [Nat.mul_assoc, Nat.mul_comm 2]
    rw [stepN, e, ih, step1_even]
theorem tabN_lt (i : Nat) (h : i < 256) : tabN i < 4294967296 := stepN_lt 8 i (by omega)
theorem xor_lt8 (a b : Nat) (ha : a < 256) (hb : b < 256) : a ^^^ b < 256 := Nat.xor_lt_two_pow (n := 8) ha hb
theorem split256 (h : Nat) : h = (h / 256 * 2 ^ 8) ^^^ (h % 256) := by
  have h1 : h / 256 * 2 ^ 8 ^^^ h % 256 = (h / 256 * 2 ^ 8) ||| (h % 256) := by
    apply Nat.eq_of_testBit_eq
    intro i
    rw [Nat.testBit_xor, Nat.testBit_or, Nat.mul_comm, Nat.testBit_two_pow_mul]
    by_cases hi : 8 ≤ i
    · have : (h % 256).testBit i = false := Nat.testBit_lt_two_pow (Nat.lt_of_lt_of_le (Nat.mod_lt _ (by omega)) (Nat.pow_le_pow_right (n := 2) (by omega) hi : 2 ^ 8 ≤ 2 ^ i))
      simp [this]
    · simp [hi]
  rw [h1, or_add _ _ 8 (by omega)]
  omega
/-- The table's step is eight single steps. -/
theorem crcStep_eq (h : Nat) (b : UInt8) : crcStep h b = stepN 8 (h ^^^ b.toNat) := by
  unfold crcStep tabN
  conv => rhs; rw [split256 h, Nat.xor_assoc, stepN_lin, stepN_shift]
theorem crcStep_lt (h : Nat) (b : UInt8) (hh : h < 4294967296) : crcStep h b < 4294967296 := by
  rw [crcStep_eq]
  exact stepN_lt 8 _ (Nat.xor_lt_two_pow (n := 32) hh (by have := b.toNat_lt; omega))
theorem foldl_lt : ∀ (l : List UInt8) (h : Nat), h < 4294967296 → l.foldl crcStep h < 4294967296 := by
  intro l
  induction l with
  | nil => intro h hh; exact hh
  | cons b l ih => intro h hh; exact ih _ (crcStep_lt h b hh)
theorem crcFold_lt (l : List UInt8) : crcFold l < 4294967296 := foldl_lt l _ (by omega)
theorem crc_lt (l : List UInt8) : crc l < 4294967296 := by unfold crc; omega
theorem crcFold_snoc (l : List UInt8) (b : UInt8) : crcFold (l ++ [b]) = crcStep (crcFold l) b := by simp [crcFold]
end Go.Proofs.YtdnbclhidpkpgaaGreat
/-
  Contracts of the functions of package disk: what each returns, and what becomes of the disk's memory. No condition.
-/
namespace Go.Proofs.YtdnbclhidpkpgaaGreat
set_option linter.unusedVariables false
set_option linter.unusedSimpArgs false
open Go.RowKit


theorem ret_i {k : IntKind} {a b : Int} (h : a = b) : Ending.returned (.int k a) = .returned (.int k b) := by rw [h]
theorem ret_b {a b : Bool} (h : a = b) : Ending.returned (.bool a) = .returned (.bool b) := by rw [h]

/-- What a disk is. -/
structure DS where
  bytes : List UInt8
  sure : Nat
  room : Nat
  broken : Bool

def DS.fit (D : DS) : Prop := D.sure ≤ D.bytes.length ∧ D.bytes.length ≤ D.room ∧ D.room ≤ 65536

/-- The disk D at block p, its bytes at A. -/
def Dk (w : World) (p : Nat) (A : Option Addr) (c : Nat) (D : DS) : Prop :=
  Blk w p 95 #[.slice A D.bytes.length c, .int .i64 D.sure, .int .i64 D.room, .bool D.broken] ∧ OwB w 5 A D.bytes.length c D.bytes ∧ D.fit

def dkf (p : Nat) (A : Option Addr) : Nat → Prop := fun k => k = p ∨ fp A k
def Nw (w : World) (A A' : Option Addr) : Prop := A' = A ∨ Fresh w A'

section
variable {F : Nat → Prop} {w w' : World} {p : Nat} {A : Option Addr} {c : Nat} {D : DS}
theorem Dk.mod (h : Dk w p A c D) (hm : Mod F w w') (hF : ∀ k, dkf p A k → ¬ F k) : Dk w' p A c D :=
  ⟨h.1.mod hm (hF p (.inl rfl)), h.2.1.mod hm (fun k hk => hF k (.inr hk)), h.2.2⟩
theorem Dk.mod0 (h : Dk w p A c D) (hm : Mod none_ w w') : Dk w' p A c D := h.mod hm fun _ _ hh => hh
theorem Dk.apart (h : Dk w p A c D) : ¬ fp A p := h.2.1.ne_blk h.1 (by decide)
theorem Dk.lt (h : Dk w p A c D) : ∀ k, dkf p A k → k < w.heap.size := by
  rintro k (rfl | hk)
  · exact h.1.lt
  · exact h.2.1.lt k hk
theorem Dk.c0 (h : Dk w p A c D) : w.cell? ⟨p, 0, none⟩ = some (.slice A D.bytes.length c) := h.1.cell 0
theorem Dk.c1 (h : Dk w p A c D) : w.cell? ⟨p, 1, none⟩ = some (.int .i64 D.sure) := h.1.cell 1
theorem Dk.c2 (h : Dk w p A c D) : w.cell? ⟨p, 2, none⟩ = some (.int .i64 D.room) := h.1.cell 2
theorem Dk.c3 (h : Dk w p A c D) : w.cell? ⟨p, 3, none⟩ = some (.bool D.broken) := h.1.cell 3
end

theorem disk_new (r : Int) (w : World) : Calls Tryz.prog 18 #[.int .i64 r] w fun e w' =>
    e = .returned (.pointer (some ⟨w.heap.size, 0, none⟩)) ∧ Dk w' w.heap.size none 0 ⟨[], 0, (min (max r 0) 65536).toNat, false⟩ ∧ Mod none_ w w' := by
  have fin : ∀ (n : Int), n = min (max r 0) 65536 → ∀ w', w' = w.alloc (.cells #[.slice none 0 0, .int .i64 0, .int .i64 n, .bool false] 95) →
      Dk w' w.heap.size none 0 ⟨[], 0, (min (max r 0) 65536).toNat, false⟩ ∧ Mod none_ w w' := by
    rintro n hn w' rfl
    refine ⟨⟨?_, Ow.nil _ _ _, ?_⟩, (Mod.refl _ w).alloc _⟩
    · have e : (((min (max r 0) 65536).toNat : Nat) : Int) = n := by omega
      simp only [e]
      exact Blk.new w _ _
    · simp [DS.fit]; omega
  go_enter Tryz.func18, Tryz.ntmps18
  go_wp2
  all_goals go_ret
  all_goals exact ⟨rfl, fin _ (by omega) _ rfl⟩

theorem disk_broken_nil (w : World) : Calls Tryz.prog 66 #[.pointer none] w fun e w' => e = .returned (.bool true) ∧ w = w' := by
  go_enter Tryz.func66, Tryz.ntmps66
  go_wp2
  go_ret
  exact ⟨rfl, rfl⟩
theorem disk_broken (p : Nat) (b : Bool) (w : World) (h : w.cell? ⟨p, 3, none⟩ = some (.bool b)) : Calls Tryz.prog 66 #[.pointer (some ⟨p, 0, none⟩)] w fun e w' => e = .returned (.bool b) ∧ w = w' := by
  go_enter Tryz.func66, Tryz.ntmps66
  go_wp2
  go_ret
  exact ⟨rfl, rfl⟩
theorem disk_sure_nil (w : World) : Calls Tryz.prog 33 #[.pointer none] w fun e w' => e = .returned (.int .i64 0) ∧ w = w' := by
  go_enter Tryz.func33, Tryz.ntmps33
  go_wp2
  go_ret
  exact ⟨rfl, rfl⟩
theorem disk_sure (p : Nat) (n : Int) (w : World) (h : w.cell? ⟨p, 1, none⟩ = some (.int .i64 n)) : Calls Tryz.prog 33 #[.pointer (some ⟨p, 0, none⟩)] w fun e w' => e = .returned (.int .i64 n) ∧ w = w' := by
  go_enter Tryz.func33, Tryz.ntmps33
  go_wp2
  go_ret
  exact ⟨rfl, rfl⟩
theorem disk_room_nil (w : World) : Calls Tryz.prog 67 #[.pointer none] w fun e w' => e = .returned (.int .i64 0) ∧ w = w' := by
  go_enter Tryz.func67, Tryz.ntmps67
  go_wp2
  go_ret
  exact ⟨rfl, rfl⟩
/-- The room; it draws. -/
theorem disk_room (p : Nat) (A : Option Addr) (n r c : Nat) (w : World) (h0 : w.cell? ⟨p, 0, none⟩ = some (.slice A n c)) (h2 : w.cell? ⟨p, 2, none⟩ = some (.int .i64 r)) (hr : r ≤ 65536) (hn : n ≤ r) :
    Calls Tryz.prog 67 #[.pointer (some ⟨p, 0, none⟩)] w fun e w' => e = .returned (.int .i64 ((r : Int) - n)) ∧ ∃ k, w' = w.drewN k := by
  go_enter Tryz.func67, Tryz.ntmps67
  go_wp2
  go_quiet (fail)
  go_wp2
  go_ret
  exact ⟨rfl, _, rfl⟩
theorem disk_break_nil (w : World) : Calls Tryz.prog 30 #[.pointer none] w fun e w' => e = .returned (.tuple #[]) ∧ w = w' := by
  go_enter Tryz.func30, Tryz.ntmps30
  go_wp2
  go_end0
  exact ⟨rfl, rfl⟩
theorem disk_break (p : Nat) (A : Option Addr) (c : Nat) (D : DS) (w : World) (h : Dk w p A c D) : Calls Tryz.prog 30 #[.pointer (some ⟨p, 0, none⟩)] w fun e w' =>
    e = .returned (.tuple #[]) ∧ Dk w' p A c { D with broken := true } ∧ Mod (dkf p A) w w' := by
  have h3 := h.c3
  have f3 := h.1.frozen 3
  have H := Lib.hid h
  clear h
  go_enter Tryz.func30, Tryz.ntmps30
  go_wp2
  go_end0
  have h := H.out
  refine ⟨rfl, ⟨h.1.set_ 3 _, ?_, h.2.2⟩, (Mod.refl _ w).setCell (.inl (.inl rfl)) _⟩
  exact h.2.1.mod ((Mod.refl (fun k => k = p) w).setCell (p := ⟨p, 3, none⟩) (.inl rfl) _) (fun k hk he => h.apart (he ▸ hk))

theorem disk_sync_nil (w : World) : Calls Tryz.prog 52 #[.pointer none] w fun e w' => e = .returned (.int .i64 14) ∧ w = w' := by
  go_enter Tryz.func52, Tryz.ntmps52
  go_wp2_with (go_at_call 66; refine (disk_broken_nil _).mono ?_; rintro e w' ⟨rfl, rfl⟩)
  go_ret
  exact ⟨rfl, rfl⟩

theorem Dk.upd {w w' : World} {p : Nat} {A : Option Addr} {c : Nat} {D D' : DS} {cs : Array Value} (h : Dk w p A c D) (hb : Blk w' p 95 cs) (hm : Mod (fun k => k = p) w w')
    (hcs : cs = #[.slice A D'.bytes.length c, .int .i64 D'.sure, .int .i64 D'.room, .bool D'.broken]) (hD : D'.bytes = D.bytes) (hf : D'.fit) : Dk w' p A c D' := by
  refine ⟨hcs ▸ hb, ?_, hf⟩
  rw [hD]
  exact h.2.1.mod hm (fun k hk he => h.apart (he ▸ hk))

section
variable (p : Nat) (A : Option Addr) (c : Nat) (l : List UInt8) (s r : Nat) (w : World)
theorem disk_sync_down (h : Dk w p A c ⟨l, s, r, true⟩) : Calls Tryz.prog 52 #[.pointer (some ⟨p, 0, none⟩)] w fun e w' => e = .returned (.int .i64 14) ∧ w = w' := by
  have h3 := h.c3
  clear h
  go_enter Tryz.func52, Tryz.ntmps52
  go_wp2_with (go_at_call 66; refine (disk_broken p _ _ h3).mono ?_; rintro e w' ⟨rfl, rfl⟩)
  go_ret
  exact ⟨rfl, rfl⟩
theorem disk_sync (h : Dk w p A c ⟨l, s, r, false⟩) : Calls Tryz.prog 52 #[.pointer (some ⟨p, 0, none⟩)] w fun e w' =>
    e = .returned (.int .i64 0) ∧ Dk w' p A c ⟨l, l.length, r, false⟩ ∧ Mod (dkf p A) w w' := by
  have h0 := h.c0
  have h1 := h.c1
  have h3 := h.c3
  have f1 := h.1.frozen 1
  have H := Lib.hid h
  clear h
  go_enter Tryz.func52, Tryz.ntmps52
  go_wp2_with (go_at_call 66; refine (disk_broken p _ _ h3).mono ?_; rintro e w' ⟨rfl, rfl⟩)
  go_ret
  have h := H.out
  exact ⟨rfl, h.upd (h.1.set_ 1 _) ((Mod.refl (fun k => k = p) w).setCell (p := ⟨p, 1, none⟩) (.inl rfl) _) rfl rfl ⟨Nat.le_refl _, h.2.2.2⟩, (Mod.refl _ w).setCell (.inl (.inl rfl)) _⟩

theorem disk_cut_nil (n : Int) : Calls Tryz.prog 68 #[.pointer none, .int .i64 n] w fun e w' => e = .returned (.int .i64 14) ∧ w = w' := by
  go_enter Tryz.func68, Tryz.ntmps68
  go_wp2_with (go_at_call 66; refine (disk_broken_nil _).mono ?_; rintro e w' ⟨rfl, rfl⟩)
  go_ret
  exact ⟨rfl, rfl⟩
theorem disk_cut_down (n : Int) (h : Dk w p A c ⟨l, s, r, true⟩) : Calls Tryz.prog 68 #[.pointer (some ⟨p, 0, none⟩), .int .i64 n] w fun e w' => e = .returned (.int .i64 14) ∧ w = w' := by
  have h3 := h.c3
  clear h
  go_enter Tryz.func68, Tryz.ntmps68
  go_wp2_with (go_at_call 66; refine (disk_broken p _ _ h3).mono ?_; rintro e w' ⟨rfl, rfl⟩)
  go_ret
  exact ⟨rfl, rfl⟩
theorem disk_cut_out (n : Int) (h : Dk w p A c ⟨l, s, r, false⟩) (hn : n < 0 ∨ (l.length : Int) < n) : Calls Tryz.prog 68 #[.pointer (some ⟨p, 0, none⟩), .int .i64 n] w fun e w' => e = .returned (.int .i64 13) ∧ w = w' := by
  have h3 := h.c3
  have h0 := h.c0
  clear h
  rcases hn with hn | hn
  · go_enter Tryz.func68, Tryz.ntmps68
    go_wp2_with (go_at_call 66; refine (disk_broken p _ _ h3).mono ?_; rintro e w' ⟨rfl, rfl⟩)
    go_ret
    exact ⟨rfl, rfl⟩
  · have hn0 : 0 ≤ n := by omega
    go_enter Tryz.func68, Tryz.ntmps68
    go_wp2_with (go_at_call 66; refine (disk_broken p _ _ h3).mono ?_; rintro e w' ⟨rfl, rfl⟩)
    go_ret
    exact ⟨rfl, rfl⟩
theorem disk_cut (k : Nat) (h : Dk w p A c ⟨l, s, r, false⟩) (hk : k ≤ l.length) : Calls Tryz.prog 68 #[.pointer (some ⟨p, 0, none⟩), .int .i64 (k : Int)] w fun e w' =>
    e = .returned (.int .i64 0) ∧ Dk w' p A k ⟨l.take k, k, r, false⟩ ∧ Mod (dkf p A) w w' := by
  have h0 := h.c0
  have h1 := h.c1
  have h3 := h.c3
  have f0 := h.1.frozen 0
  have f1 := h.1.frozen 1
  have hlen : l.length ≤ 65536 := Nat.le_trans h.2.2.2.1 h.2.2.2.2
  have hc : l.length ≤ c := h.2.1.2.1
  have H := Lib.hid h
  clear h
  go_enter Tryz.func68, Tryz.ntmps68
  go_wp2_with (go_at_call 66; refine (disk_broken p _ _ h3).mono ?_; rintro e w' ⟨rfl, rfl⟩)
  go_ret
  have h := H.out
  have hm : Mod (fun k => k = p) w ((w.setCell ⟨p, 0, none⟩ (.slice A k k)).setCell ⟨p, 1, none⟩ (.int .i64 (k : Int))) :=
    ((Mod.refl (fun k => k = p) w).setCell (p := ⟨p, 0, none⟩) (.inl rfl) _).setCell (p := ⟨p, 1, none⟩) (.inl rfl) _
  have ho : Ow w 5 1 A k k (bvs (l.take k)) := by
    have := (h.2.1.take_ hk).clip (Nat.le_refl k) (by omega)
    rwa [Nat.mul_one, ← bvs_take] at this
  refine ⟨rfl, ⟨?_, ?_, ?_⟩, hm.mono fun _ e => .inl e⟩
  · have e : (l.take k).length = k := by simp; omega
    show Blk _ _ _ #[.slice A (l.take k).length k, _, _, _]
    rw [e]
    exact (h.1.set_ 0 _).set_ 1 _
  · have e : (l.take k).length = k := by simp; omega
    show Ow _ _ _ _ (l.take k).length _ _
    rw [e]
    exact ho.mod hm (fun i hi he => h.apart (he ▸ hi))
  · have := h.2.2
    simp only [DS.fit, List.length_take] at this ⊢
    omega

/-- slices.Clone: the bytes, in a row of its own. -/
theorem clone_any (B : Option Addr) (n d : Nat) (h : RdB w B n l) (hn : n ≤ 140737488351232) : Calls Tryz.prog 50 #[.slice B n d] w fun e w' =>
    ∃ A' c', e = .returned (.slice A' n c') ∧ OwB w' 5 A' n c' l ∧ Fresh w A' ∧ Mod none_ w w' := by
  obtain ⟨i0, hi, hz0, hz1, hz2⟩ := info_parts u8info
  have hq := fun (w : World) (a : Option Addr) (n c : Nat) => Lib.run_eql_slice_nil (P := Tryz.prog) w 22 _ a n c 0 0 Tryz.underlying22
  rcases B with _ | a
  · have hl : l = [] := by
      rcases Nat.eq_zero_or_pos n with h0 | h0
      · exact List.eq_nil_of_length_eq_zero (by rw [h.len, h0])
      · obtain ⟨ad, h, _⟩ := h.2 h0; cases h
    have hn0 : n = 0 := by rw [← h.len, hl]; rfl
    subst hl hn0
    clear h hn
    go_enter Tryz.func50, Tryz.ntmps50
    go_wp2
    go_ret
    exact ⟨none, 0, rfl, Ow.nil _ _ _, (fun _ h => by cases h), Mod.refl _ _⟩
  · go_enter Tryz.func50, Tryz.ntmps50
    go_wp2_with (at_builtin; refine wpList_append_ow rfl (.tmp 5) (.tmp 6) 22 rfl 5 i0 _ 1 1 Tryz.underlying22 hi hz0 hz1 hz2 rfl (by omega) (some ⟨w.heap.size, 0, none⟩) 0 0 [] rfl ?_ (some a) n d (bvs l) rfl ?_ (bvs_one l) (by omega) (by omega) ?_)
    · exact Ow.new w _ 1 0 #[] (Nat.zero_le _) rfl
    · exact Rd.alloc h _
    · intro A' c' w1 hown hmod hA'
      go_wp2
      go_ret
      refine ⟨A', c', rfl, hown, ?_, ((Mod.refl none_ w).alloc (.cells #[] 5)).then hmod ?_⟩
      · rintro b hb
        rcases hA' with rfl | rfl <;> cases hb <;> simp
      · rintro k hk ⟨b, hb, rfl⟩
        cases hb
        simp at hk

/-- Bytes. -/
theorem disk_bytes_nil : Calls Tryz.prog 19 #[.pointer none] w fun e w' => e = .returned (.slice none 0 0) ∧ w = w' := by
  go_enter Tryz.func19, Tryz.ntmps19
  go_wp2
  go_ret
  exact ⟨rfl, rfl⟩
theorem disk_bytes (D : DS) (h : Dk w p A c D) : Calls Tryz.prog 19 #[.pointer (some ⟨p, 0, none⟩)] w fun e w' =>
    ∃ A' c', e = .returned (.slice A' D.bytes.length c') ∧ OwB w' 5 A' D.bytes.length c' D.bytes ∧ Fresh w A' ∧ Mod none_ w w' := by
  have h0 := h.c0
  have hr : RdB w A D.bytes.length D.bytes := h.2.1.rd
  have hlen : D.bytes.length ≤ 65536 := Nat.le_trans h.2.2.2.1 h.2.2.2.2
  clear h
  go_enter Tryz.func19, Tryz.ntmps19
  go_wp2_with (go_at_call 50; refine (clone_any D.bytes _ A _ _ hr (by omega)).mono ?_; rintro e w1 ⟨A', c', rfl, h1, h2, h3⟩)
  go_ret
  exact ⟨A', c', rfl, h1, h2, h3⟩

/-- Append. -/
theorem disk_append_nil (v : Value) : Calls Tryz.prog 29 #[.pointer none, v] w fun e w' => e = .returned (.int .i64 14) ∧ w = w' := by
  go_enter Tryz.func29, Tryz.ntmps29
  go_wp2_with (go_at_call 66; refine (disk_broken_nil _).mono ?_; rintro e w' ⟨rfl, rfl⟩)
  go_ret
  exact ⟨rfl, rfl⟩
theorem disk_append_down (v : Value) (h : Dk w p A c ⟨l, s, r, true⟩) : Calls Tryz.prog 29 #[.pointer (some ⟨p, 0, none⟩), v] w fun e w' => e = .returned (.int .i64 14) ∧ w = w' := by
  have h3 := h.c3
  clear h
  go_enter Tryz.func29, Tryz.ntmps29
  go_wp2_with (go_at_call 66; refine (disk_broken p _ _ h3).mono ?_; rintro e w' ⟨rfl, rfl⟩)
  go_ret
  exact ⟨rfl, rfl⟩
theorem disk_append_full (h : Dk w p A c ⟨l, s, r, false⟩) (B : Option Addr) (n d : Nat) (hn : r < l.length + n) : Calls Tryz.prog 29 #[.pointer (some ⟨p, 0, none⟩), .slice B n d] w fun e w' =>
    e = .returned (.int .i64 5) ∧ ∃ k, w' = w.drewN k := by
  have h0 := h.c0
  have h2 := h.c2
  have h3 := h.c3
  have hr : r ≤ 65536 := h.2.2.2.2
  have hl : l.length ≤ r := h.2.2.2.1
  clear h
  go_enter Tryz.func29, Tryz.ntmps29
  go_wp2_with (first
    | (go_at_call 66; refine (disk_broken p _ _ h3).mono ?_; rintro e w' ⟨rfl, rfl⟩)
    | (go_at_call 67; refine (disk_room p _ _ _ _ _ h0 h2 hr hl).mono ?_; rintro e w' ⟨rfl, k, rfl⟩))
  go_ret
  exact ⟨rfl, _, rfl⟩
set_option maxRecDepth 100000 in
theorem disk_append (h : Dk w p A c ⟨l, s, r, false⟩) (B : Option Addr) (n d : Nat) (b : List UInt8) (hb : RdB w B n b) (hn : l.length + n ≤ r) : Calls Tryz.prog 29 #[.pointer (some ⟨p, 0, none⟩), .slice B n d] w fun e w' =>
    e = .returned (.int .i64 0) ∧ ∃ A', (∃ c', Dk w' p A' c' ⟨l ++ b, s, r, false⟩) ∧ Nw w A A' ∧ Mod (dkf p A) w w' := by
  obtain ⟨i0, hi, hz0, hz1, hz2⟩ := info_parts u8info
  have h0 := h.c0
  have h2 := h.c2
  have h3 := h.c3
  have hr : r ≤ 65536 := h.2.2.2.2
  have hl : l.length ≤ r := h.2.2.2.1
  have H := Lib.hid h
  clear h
  go_enter Tryz.func29, Tryz.ntmps29
  go_wp2_with (first
    | (go_at_call 66; refine (disk_broken p _ _ h3).mono ?_; rintro e w' ⟨rfl, rfl⟩)
    | (go_at_call 67; refine (disk_room p _ _ _ _ _ h0 h2 hr hl).mono ?_; rintro e w' ⟨rfl, k, rfl⟩)
    | (at_builtin; refine wpList_append_ow rfl (.tmp 18) (.tmp 19) 22 rfl 5 i0 _ 1 1 Tryz.underlying22 hi hz0 hz1 hz2 rfl (by omega) A l.length c (bvs l) rfl ?_ B n d (bvs b) rfl ?_ (bvs_one b) (by omega) (by omega) ?_))
  · exact H.out.2.1
  · exact hb
  · intro A' c' w1 hown hmod hA'
    have h := H.out
    have hb1 : Blk w1 p _ _ := h.1.mod (w := w.drewN k) hmod h.apart
    have c0 := hb1.cell 0
    have f0 := hb1.frozen 0
    have Hb1 := Lib.hid hb1
    have Hown := Lib.hid hown
    have Hmod := Lib.hid hmod
    clear h hb1 hown hmod
    go_wp2
    go_ret
    have h := H.out
    have hown := Hown.out
    have hmod := Hmod.out
    have hnA : ¬ fp A' p := hown.ne_blk Hb1.out (by decide)
    refine ⟨rfl, A', ⟨c', ?_, ?_, ?_⟩, ?_, ?_⟩
    · have e : (l ++ b).length = l.length + n := by rw [List.length_append, hb.len]
      show Blk _ _ _ #[.slice A' (l ++ b).length c', _, _, _]
      rw [e]
      exact Hb1.out.set_ 0 _
    · have e : (l ++ b).length = l.length + n := by rw [List.length_append, hb.len]
      show Ow _ _ _ _ (l ++ b).length _ _
      rw [e, bvs_append]
      exact hown.mod ((Mod.refl (fun k => k = p) w1).setCell (p := ⟨p, 0, none⟩) (.inl rfl) _) (fun i hi he => hnA (he ▸ hi))
    · have := h.2.2
      have := hb.len
      simp only [DS.fit, List.length_append] at *
      omega
    · rcases hA' with rfl | rfl
      · exact .inl rfl
      · exact .inr fun a ha => by cases ha; simp
    · have h1 : Mod (dkf p A) w w1 := ((Mod.refl (dkf p A) w).drewN k).then hmod fun i _ hi => .inr hi
      exact h1.setCell (.inl (.inl rfl)) _

/-- Up: what is kept, and spoiled. -/
def spoil1 (sure keep : Nat) (l : List UInt8) (x : Int × UInt8) : List UInt8 := if 0 ≤ x.1 ∧ x.1 < keep then l.set (sure + x.1.toNat) x.2 else l
def spoils_ (sure keep : Nat) (l : List UInt8) (xs : List (Int × UInt8)) : List UInt8 := xs.foldl (spoil1 sure keep) l
theorem spoil1_length (sure keep : Nat) (l : List UInt8) (x : Int × UInt8) : (spoil1 sure keep l x).length = l.length := by unfold spoil1; split <;> simp
theorem spoils_length (sure keep : Nat) (xs : List (Int × UInt8)) : ∀ l, (spoils_ sure keep l xs).length = l.length := by
  induction xs with
  | nil => intro l; rfl
  | cons x xs ih => intro l; exact (ih _).trans (spoil1_length _ _ _ _)
def upKeep (l : List UInt8) (s : Nat) (k : Int) : Nat := (min (max k 0) ((l.length : Int) - s)).toNat
def spv (xs : List (Int × UInt8)) : List Value := xs.flatMap fun x => [.int .i64 x.1, bv x.2]

theorem disk_up_nil (v v' : Value) : Calls Tryz.prog 31 #[.pointer none, v, v'] w fun e w' => e = .returned (.tuple #[]) ∧ w = w' := by
  go_enter Tryz.func31, Tryz.ntmps31
  go_wp2
  go_returns
  exact ⟨rfl, rfl⟩
end
end Go.Proofs.YtdnbclhidpkpgaaGreat
/-
  Contracts of frame.fits, frame.table, frame.Sum. No condition.
-/
namespace Go.Proofs.YtdnbclhidpkpgaaGreat
set_option linter.unusedVariables false
set_option linter.unusedSimpArgs false
open Go.RowKit



theorem fits_yes (n : Int) (w : World) (h1 : 1 ≤ n) (h2 : n ≤ 4096) : Calls Tryz.prog 77 #[.int .i64 n] w fun e w' => e = .returned (.bool true) ∧ w = w' := by
  go_enter Tryz.func77, Tryz.ntmps77
  go_wp2
  go_ret
  exact ⟨rfl, rfl⟩
theorem fits_no (n : Int) (w : World) (h : n < 1 ∨ 4096 < n) : Calls Tryz.prog 77 #[.int .i64 n] w fun e w' => e = .returned (.bool false) ∧ w = w' := by
  rcases h with h | h
  · go_enter Tryz.func77, Tryz.ntmps77
    go_wp2
    go_ret
    exact ⟨rfl, rfl⟩
  · have h1 : 1 ≤ n := by omega
    go_enter Tryz.func77, Tryz.ntmps77
    go_wp2
    go_ret
    exact ⟨ret_b (by simp; omega), rfl⟩

/-- The table with its first j places filled. -/
def tabCells (j : Nat) : Array Value := ((List.range 256).map fun i => Value.int .u32 (if i < j then (tabN i : Int) else 0)).toArray
theorem tabCells_size (j : Nat) : (tabCells j).size = 256 := by simp [tabCells]
theorem tabCells_get (j i : Nat) (hi : i < 256) : (tabCells j)[i]? = some (.int .u32 (if i < j then (tabN i : Int) else 0)) := by
  simp [tabCells, hi]
theorem tabCells_set (j : Nat) (hj : j < 256) : (tabCells j).setIfInBounds j (.int .u32 (tabN j : Int)) = tabCells (j + 1) := by
  apply Array.ext_getElem?
  intro i
  rw [Array.getElem?_setIfInBounds]
  by_cases h : j = i
  · subst h
    rw [if_pos rfl, if_pos (by rw [tabCells_size]; exact hj), tabCells_get _ _ hj, if_pos (by omega)]
  · rw [if_neg h]
    rcases Nat.lt_or_ge i 256 with hi | hi
    · rw [tabCells_get _ _ hi, tabCells_get _ _ hi]
      by_cases h2 : i < j
      · rw [if_pos h2, if_pos (by omega)]
      · rw [if_neg h2, if_neg (by omega)]
    · rw [Array.getElem?_eq_none (by rw [tabCells_size]; exact hi), Array.getElem?_eq_none (by rw [tabCells_size]; exact hi)]

/-- A new variable, whatever its size. -/
theorem wpList_alloc_zero {P : Program} {w : World} {ops : Array Oper} {rest : List Oper} {o : Oper} {a : Act} {Q : Exit → Act → World → Prop} (hgd : o.guard = none) (t : TypeId) (ho : o.op = .alloc t)
    (i : TypeInfo) (z : Value) (hi : P.info? t = some i) (hz : i.zero = some z)
    (h : wpList P ops Q rest (a.put o.dst (.pointer (some ⟨w.heap.size, 0, none⟩))) (w.alloc (.cells z.cells t))) : wpList P ops Q (o :: rest) a w :=
  wpList_plain hgd fun K hK => by
    unfold Oper.wp execOp
    simp only [ho]
    simp [Instr.alloc, zeroValue, typeInfo, hi, hz, newVar, newRow, newObj]
    exact hK _ _ h

theorem tabinfo : (Tryz.prog.info? 150).map (fun i => (i.zero, i.size, i.bytes)) = some (some (.agg (tabCells 0)), 256, 1024) := by kernel_rfl

theorem step_bitsF (h : Nat) (hh : h < 4294967296) : bits .xor .u32 ((h : Int) / 2) (bits .and .u32 3988292384 (-bits .and .u32 (h : Int) 1 % 4294967296)) = ((step1 h : Nat) : Int) := by
  have e1 : bits .and .u32 (h : Int) 1 = ((h % 2 : Nat) : Int) := by
    have := ba32 h 1 hh (by omega)
    rw [Nat.and_one_is_mod] at this
    exact this
  have e2 : ((h : Int) / 2) = ((h / 2 : Nat) : Int) := by omega
  rw [e1, e2]
  unfold step1
  rcases Nat.mod_two_eq_zero_or_one h with h0 | h0
  · rw [h0, if_neg (by omega)]
    have e3 : bits .and .u32 3988292384 (-((0 : Nat) : Int) % 4294967296) = ((0 : Nat) : Int) := by
      have := ba32 3988292384 0 (by omega) (by omega)
      simpa using this
    rw [e3]
    exact bx32 _ _ (by omega) (by omega)
  · rw [h0, if_pos rfl]
    have e3 : bits .and .u32 3988292384 (-((1 : Nat) : Int) % 4294967296) = ((3988292384 : Nat) : Int) := by
      have := ba32 3988292384 4294967295 (by omega) (by omega)
      have e4 : -((1 : Nat) : Int) % 4294967296 = ((4294967295 : Nat) : Int) := by omega
      rw [e4]
      have e5 : (3988292384 &&& 4294967295 : Nat) = 3988292384 := by decide
      rw [e5] at this
      exact this
    rw [e3]
    exact bx32 _ _ (by omega) (by omega)

theorem u32_eq {a b : Int} (h : a = b) : Value.int .u32 a = Value.int .u32 b := by rw [h]

set_option maxRecDepth 100000 in
theorem table_ok (w : World) : Calls Tryz.prog 100 #[] w fun e w' => e = .returned (.pointer (some ⟨w.heap.size, 0, none⟩)) ∧ w' = w.alloc (.cells (tabCells 256) 150) := by
  obtain ⟨i0, hi, hz0, hz1, hz2⟩ := info_parts tabinfo
  go_enter Tryz.func100, Tryz.ntmps100
  go_wp2_with (refine wpList_alloc_zero rfl 150 rfl i0 _ hi hz0 ?_)
  go_loopw [4] (fun i wr => ∃ (j : Nat), i = .int .i64 j ∧ j ≤ 256 ∧ wr = w.alloc (.cells (tabCells j) 150)) (fun i _ => 256 - (intOf i).toNat)
  case atStart => exact ⟨0, rfl, by omega, rfl⟩
  case round =>
    obtain ⟨j, rfl, hj, rfl⟩ := hrel
    by_cases hj2 : j < 256
    · go_wp2_with fail
      go_loop [3, 9] (fun h4 i => ∃ (k : Nat), h4 = .int .u32 (stepN k j : Nat) ∧ i = .int .i64 k ∧ k ≤ 8) (fun _ i => 8 - (intOf i).toNat)
      case atStart => exact ⟨0, rfl, rfl, by omega⟩
      case round =>
        obtain ⟨k, rfl, rfl, hk⟩ := hrel
        by_cases hk2 : k < 8
        · have hlt := stepN_lt k j (by omega)
          have hs : stepN (k + 1) j = step1 (stepN k j) := rfl
          have hb := step_bitsF (stepN k j) hlt
          rw [← hs] at hb
          replace hb := Lib.hid hb
          clear hs
          go_wp2
          go_round
          case rel => exact ⟨k + 1, u32_eq hb.out, by go_num, by omega⟩
          case measure => simp [intOf]; omega
        · have hk3 : k = 8 := by omega
          subst hk3
          have hg := tabCells_get j j hj2
          rw [if_neg (by omega)] at hg
          have hlt := stepN_lt 8 j (by omega)
          have hset := Lib.hid (tabCells_set j hj2)
          go_wp2
          go_roundw
          case rel => exact ⟨j + 1, by go_num, by omega, by rw [← hset.out]; rfl⟩
          case measure => simp [intOf]; omega
    · have hj3 : j = 256 := by omega
      subst hj3
      go_wp2
      go_ret
      exact ⟨rfl, rfl⟩

theorem not_nat (q : Nat) (hq : q < 4294967296) : 4294967295 ^^^ q = 4294967295 - q := by
  have h := BitVec.toNat_not (x := BitVec.ofNat 32 q)
  rw [BitVec.not_def, BitVec.toNat_xor, BitVec.toNat_ofNat, Nat.mod_eq_of_lt (by omega : q < 2 ^ 32)] at h
  have e : (BitVec.allOnes 32).toNat = 4294967295 := by decide
  rw [e] at h
  exact h
theorem not32 (q : Nat) (hq : q < 4294967296) : bits .xor .u32 IntKind.u32.max (q : Int) = ((4294967295 - q : Nat) : Int) := by
  have e : IntKind.u32.max = ((4294967295 : Nat) : Int) := by decide
  rw [e, bx32 4294967295 q (by omega) hq, not_nat q hq]

set_option maxRecDepth 100000 in
theorem sum_ok (w : World) (A : Option Addr) (n c : Nat) (l : List UInt8) (h : RdB w A n l) (hn : n ≤ 140737488351232) : Calls Tryz.prog 78 #[.slice A n c] w fun e w' => e = .returned (.int .u32 (crc l : Nat)) ∧ Mod none_ w w' := by
  have hl := Lib.hid h.len
  have H := Lib.hid h
  clear h
  go_enter Tryz.func78, Tryz.ntmps78
  go_wp2_with fail
  refine (table_ok w).mono ?_
  rintro e w1 ⟨rfl, hw1⟩
  have hb : Blk w1 w.heap.size 150 (tabCells 256) := by rw [hw1]; exact Blk.new w _ _
  have hm : Mod none_ w w1 := by rw [hw1]; exact (Mod.refl _ w).alloc _
  have hr := Lib.hid (H.out.mod0 hm)
  have hbt : ∀ i, i < 256 → w1.cell? ⟨w.heap.size, i, none⟩ = some (.int .u32 (tabN i : Nat)) := fun i hi => by
    rw [hb.cell, tabCells_get 256 i hi, if_pos hi]
  replace hb := Lib.hid hb
  replace hbt := Lib.hid hbt
  replace hm := Lib.hid hm
  clear hw1
  go_wp2_with fail
  go_loop [4, 10] (fun h4 i => ∃ (j : Nat), h4 = .int .u32 (crcFold (l.take j) : Nat) ∧ i = .int .i64 j ∧ j ≤ n) (fun _ i => n - (intOf i).toNat)
  case atStart => exact ⟨0, rfl, rfl, by omega⟩
  case round =>
    obtain ⟨j, rfl, rfl, hj⟩ := hrel
    by_cases hlt : j < n
    · obtain ⟨g, o, rfl, hc⟩ := hr.out.form (by omega) (by omega)
      have hjl : j < l.length := by have := hl.out; omega
      have hcj := hc j _ (bvs_get hjl)
      have hsn : crcFold (l.take (j + 1)) = crcStep (crcFold (l.take j)) l[j] := by
        rw [← crcFold_snoc, List.take_add_one, List.getElem?_eq_getElem hjl]; rfl
      have hft := crcFold_lt (l.take j)
      clear hc
      generalize l[j] = b at *
      replace hsn := Lib.hid hsn
      generalize crcFold (l.take j) = q at *
      have hbl := b.toNat_lt
      have hx : bits .xor .u8 ((q : Int) % 256) (b.toNat : Int) = (((q % 256) ^^^ b.toNat : Nat) : Int) := bx8 (q % 256) b.toNat (by omega) (by omega)
      have hxl := xor_lt8 (q % 256) b.toNat (by omega) (by omega)
      obtain ⟨x, hxx⟩ : ∃ x, x = (q % 256) ^^^ b.toNat := ⟨_, rfl⟩
      rw [← hxx] at hx hxl
      have hct := hbt.out x hxl
      have hx2 : bits .xor .u32 ((q : Int) / 256) (tabN x : Nat) = ((crcStep q b : Nat) : Int) := by
        have := bx32 (q / 256) (tabN x) (by omega) (tabN_lt x hxl)
        rw [hxx] at this ⊢
        exact this
      replace hxx := Lib.hid hxx
      go_wp2
      go_round
      case rel => exact ⟨j + 1, by rw [hsn.out], by go_num, by omega⟩
      case measure => simp [intOf]; omega
    · have hjn : j = n := by omega
      have e : l.take j = l := List.take_of_length_le (by have := hl.out; omega)
      have hft := crcFold_lt (l.take j)
      rw [e] at hft ⊢
      clear e
      have hnot := Lib.hid (not32 (crcFold l) hft)
      go_wp2
      go_ret
      exact ⟨ret_i hnot.out, hm.out⟩
end Go.Proofs.YtdnbclhidpkpgaaGreat
/-
  Numbers as bytes, as a function on lists: seven bits a byte, the lowest first. No condition.
-/
namespace Go.Proofs.YtdnbclhidpkpgaaGreat
set_option linter.unusedVariables false
set_option linter.unusedSimpArgs false
def by_ (n : Nat) : UInt8 := UInt8.ofNat n
theorem by_toNat (n : Nat) : (by_ n).toNat = n % 256 := by simp [by_]
theorem by_eq (n : Nat) (x : UInt8) (h : n % 256 = x.toNat) : by_ n = x := UInt8.toNat_inj.1 (by rw [by_toNat, h])
def vbF : Nat → Nat → List UInt8
  | 0, _ => []
  | f + 1, m => if m < 128 then [by_ m] else by_ (m % 128 + 128) :: vbF f (m / 128)
/-- The bytes of a number without its sign. -/
def vb (m : Nat) : List UInt8 := vbF 10 m
/-- What reading tells, with i bytes read and m their bits: its error, the number, how many bytes. -/
def rdF : Nat → Nat → List UInt8 → Nat × Nat × Nat
  | _, _, [] => (4, 0, 0)
  | m, i, c :: t =>
    if i = 10 ∨ (i = 9 ∧ 1 < c.toNat) then (if t = [] ∧ 128 ≤ c.toNat ∧ i < 10 then 4 else 3, 0, 0)
    else if c.toNat < 128 ∧ c.toNat = 0 ∧ 0 < i then (3, 0, 0)
    else if c.toNat < 128 then (0, m + c.toNat * 2 ^ (7 * i), i + 1)
    else rdF (m + (c.toNat - 128) * 2 ^ (7 * i)) (i + 1) t
def rdNum (l : List UInt8) : Nat × Nat × Nat := rdF 0 0 l

/-- What is written is read. -/
theorem rdF_vbF : ∀ (f i m a : Nat) (t : List UInt8), f + i = 10 → m < 2 ^ (64 - 7 * i) → (0 < i → 0 < m) → rdF a i (vbF f m ++ t) = (0, a + m * 2 ^ (7 * i), i + (vbF f m).length) := by
  intro f
  induction f with
  | zero =>
    intro i m a t hf hm h0
    have : i = 10 := by omega
    subst this
    simp at hm
    have := h0 (by omega)
    omega
  | succ f ih =>
    intro i m a t hf hm h0
    simp only [vbF]
    by_cases h1 : m < 128
    · rw [if_pos h1]
      have e : (by_ m).toNat = m := by rw [by_toNat]; omega
      simp only [List.singleton_append, rdF, e]
      rw [if_neg (by
        rintro (h | ⟨h, h2⟩)
        · omega
        · subst h; simp at hm; omega), if_neg (by rintro ⟨_, h2, h3⟩; have := h0 h3; omega), if_pos h1]
      simp
    · rw [if_neg h1]
      have e : (by_ (m % 128 + 128)).toNat = m % 128 + 128 := by rw [by_toNat]; omega
      have hi : i < 9 := by
        rcases Nat.lt_or_ge i 9 with h | h
        · exact h
        · exfalso
          have : 64 - 7 * i ≤ 1 := by omega
          have h2 := Nat.pow_le_pow_right (n := 2) (by omega) this
          omega
      simp only [List.cons_append, rdF, e]
      rw [if_neg (by rintro (h | ⟨h, _⟩) <;> omega), if_neg (by rintro ⟨h, _⟩; omega), if_neg (by omega)]
      have hp : 2 ^ (64 - 7 * i) = 2 ^ (64 - 7 * (i + 1)) * 128 := by
        have e : 64 - 7 * i = 64 - 7 * (i + 1) + 7 := by omega
        rw [e, Nat.pow_add]
      rw [ih (i + 1) (m / 128) _ t (by omega) (by rw [hp] at hm; exact Nat.div_lt_of_lt_mul (by rw [Nat.mul_comm]; exact hm)) (fun _ => by omega)]
      have e2 : m % 128 + 128 - 128 = m % 128 := by omega
      have e3 : 2 ^ (7 * (i + 1)) = 128 * 2 ^ (7 * i) := by
        have e : 7 * (i + 1) = 7 + 7 * i := by omega
        rw [e, Nat.pow_add]
      rw [e2, e3]
      simp only [Prod.mk.injEq, true_and, List.length_cons]
      refine ⟨?_, by omega⟩
      have e4 : m % 128 + m / 128 * 128 = m := by omega
      rw [← Nat.mul_assoc, Nat.add_assoc, ← Nat.add_mul, e4]
theorem rdNum_vb (m : Nat) (t : List UInt8) (hm : m < 2 ^ 64) : rdNum (vb m ++ t) = (0, m, (vb m).length) := by
  have := rdF_vbF 10 0 m 0 t (by omega) (by simpa using hm) (by omega)
  simpa [rdNum, vb] using this
/-- Cut ahead of a number's last byte: torn. -/
theorem rdF_cut : ∀ (l : List UInt8) (i a m k j : Nat), rdF a i l = (0, m, k) → i + j < k → rdF a i (l.take j) = (4, 0, 0) := by
  intro l
  induction l with
  | nil => intro i a m k j h; simp [rdF] at h
  | cons c t ih =>
    intro i a m k j h hj
    cases j with
    | zero => rfl
    | succ j =>
      simp only [rdF, List.take_succ_cons] at h ⊢
      by_cases h1 : i = 10 ∨ (i = 9 ∧ 1 < c.toNat)
      · rw [if_pos h1] at h
        exfalso
        have := congrArg (·.1) h
        simp only at this
        split at this <;> omega
      · rw [if_neg h1] at h ⊢
        by_cases h2 : c.toNat < 128 ∧ c.toNat = 0 ∧ 0 < i
        · rw [if_pos h2] at h
          simp at h
        · rw [if_neg h2] at h ⊢
          by_cases h3 : c.toNat < 128
          · rw [if_pos h3] at h
            simp only [Prod.mk.injEq] at h
            omega
          · rw [if_neg h3] at h ⊢
            exact ih _ _ m k j h (by omega)
theorem rdNum_cut {l : List UInt8} {m k j : Nat} (h : rdNum l = (0, m, k)) (hj : j < k) : rdNum (l.take j) = (4, 0, 0) := rdF_cut l 0 0 m k j h (by omega)
/-- What is read is written so. -/
theorem rdF_once : ∀ (l : List UInt8) (i a M k : Nat), i ≤ 10 → rdF a i l = (0, M, k) → ∃ m, M = a + m * 2 ^ (7 * i) ∧ i < k ∧ k ≤ i + l.length ∧ l.take (k - i) = vbF (10 - i) m ∧ (0 < i → 0 < m) ∧ m < 2 ^ (64 - 7 * i) := by
  intro l
  induction l with
  | nil => intro i a M k _ h; simp [rdF] at h
  | cons c t ih =>
    intro i a M k hi h
    simp only [rdF] at h
    have hc := c.toNat_lt
    by_cases h1 : i = 10 ∨ (i = 9 ∧ 1 < c.toNat)
    · rw [if_pos h1] at h
      exfalso
      have := congrArg (·.1) h
      simp only at this
      split at this <;> omega
    · rw [if_neg h1] at h
      have hi9 : i ≤ 9 := by omega
      have hf : 10 - i = (9 - i) + 1 := by omega
      by_cases h2 : c.toNat < 128 ∧ c.toNat = 0 ∧ 0 < i
      · rw [if_pos h2] at h
        simp at h
      · rw [if_neg h2] at h
        by_cases h3 : c.toNat < 128
        · rw [if_pos h3] at h
          simp only [Prod.mk.injEq, true_and] at h
          obtain ⟨rfl, rfl⟩ := h
          refine ⟨c.toNat, rfl, by omega, by simp, ?_, fun h0 => by omega, ?_⟩
          · rw [hf]
            simp only [vbF]
            rw [if_pos h3, show i + 1 - i = 1 by omega]
            simp only [List.take_succ_cons, List.take_zero]
            rw [by_eq c.toNat c (by omega)]
          · by_cases h9 : i = 9
            · subst h9
              have : c.toNat < 2 := by omega
              simpa using this
            · have : 2 ^ 8 ≤ 2 ^ (64 - 7 * i) := Nat.pow_le_pow_right (by omega) (by omega)
              omega
        · rw [if_neg h3] at h
          have hi8 : i ≤ 8 := by omega
          obtain ⟨m, hM, hk, hkl, ht, hm0, hml⟩ := ih (i + 1) _ M k (by omega) h
          have hmp := hm0 (by omega)
          refine ⟨(c.toNat - 128) + m * 128, ?_, by omega, by simp only [List.length_cons]; omega, ?_, fun _ => by omega, ?_⟩
          · rw [hM]
            have e : 7 * (i + 1) = 7 + 7 * i := by omega
            rw [e, Nat.pow_add, ← Nat.mul_assoc, Nat.add_assoc, ← Nat.add_mul]
          · rw [hf]
            simp only [vbF]
            rw [if_neg (by omega), show k - i = (k - (i + 1)) + 1 by omega, List.take_succ_cons, ht]
            rw [by_eq _ c (by omega), show (c.toNat - 128 + m * 128) / 128 = m by omega, show 10 - (i + 1) = 9 - i by omega]
          · have e : 64 - 7 * i = 64 - 7 * (i + 1) + 7 := by omega
            rw [e, Nat.pow_add]
            have := Nat.mul_le_mul_right 128 (show m + 1 ≤ 2 ^ (64 - 7 * (i + 1)) from hml)
            omega
theorem rdNum_once {l : List UInt8} {m k : Nat} (h : rdNum l = (0, m, k)) : 0 < k ∧ k ≤ l.length ∧ l.take k = vb m ∧ m < 18446744073709551616 := by
  obtain ⟨m', hM, h1, h2, h3, _, h5⟩ := rdF_once l 0 0 m k (by omega) h
  have e : m = m' := by simpa using hM
  subst e
  exact ⟨h1, by omega, by simpa [vb] using h3, by simpa using h5⟩
end Go.Proofs.YtdnbclhidpkpgaaGreat
