/-
  Operations on doubles as steps of the walk: the library's entries on bits, sums that are no numbers (their bits are drawn), greatest, opposite.
-/
import Derived.Test.YtlikknamliamiaaDoorFlt3
import Derived.Test.YtlikknamliamiaaDoorMem2
import Derived.Test.YtlikknamliamiaaDoorRows
import Derived.Laws.Externs
namespace Go.Proofs.YtlikknamliamiaaDoor
set_option linter.unusedVariables false
open Go.RowKit
@[go_sem] theorem run_bits (b : Nat) (w : World) : (callFunc 24 #[.float .f64 b]).run Tryd.prog w = .ok (.value (.int .u64 b)) w := by
  rw [run_callFunc_extern Tryd.func24 (by kernel_rfl) (by kernel_rfl) (by kernel_rfl) (e := Extern.MathFloatBits.float64bits) (by kernel_rfl)]; rfl
@[go_sem] theorem run_frombits (n : Int) (w : World) : (callFunc 36 #[.int .u64 n]).run Tryd.prog w = .ok (.value (.float .f64 n.toNat)) w := by
  rw [run_callFunc_extern Tryd.func36 (by kernel_rfl) (by kernel_rfl) (by kernel_rfl) (e := Extern.MathFloatBits.float64frombits) (by kernel_rfl)]; rfl
def rte (x : Nat) : Nat := D.write ((D.read x).integral .even)
theorem not_nan (x : Nat) (h : ¬ Nan x) : (∃ s m e, D.read x = .number s m e) ∨ ∃ s, D.read x = .infinity s := by
  rcases tri x with g | g | g
  · obtain ⟨m, p, e, _⟩ := parts x g
    exact .inl ⟨_, _, _, e⟩
  · exact .inr ⟨_, read_inf x g⟩
  · exact absurd g h
theorem rte_entry : Extern.find Tryd.f32 = some (Extern.MathFloor.toIntegral "math.RoundToEven" .even) := by kernel_rfl
theorem run_rte (x : Nat) (h : ¬ Nan x) (w : World) : (callFunc 32 #[.float .f64 x]).run Tryd.prog w = .ok (.value (.float .f64 (rte x))) w := by
  rw [run_callFunc_extern Tryd.func32 (by kernel_rfl) (by kernel_rfl) (by kernel_rfl) rte_entry]
  unfold rte
  change Result.andThen (Sem.run _ (match D.read x with | .nan _ _ => _ | d => pure (Value.float .f64 (D.write (d.integral .even)))) _) _ = _
  rcases not_nan x h with ⟨s, m, k, g⟩ | ⟨s, g⟩ <;> rw [g] <;> rfl
theorem nan_write (s : Bool) (t : Nat) (h : 0 < t % 2^52) : Nan (D.write (.nan s t)) := by
  show Nan (D.word s (D.infRung + t % D.binade))
  rw [bn, ir]
  have := Nat.mod_lt t (show 0 < 2^52 by omega)
  unfold Nan infR
  rw [(word_sgn s _ (by omega)).2]; omega
theorem quiet_pos (t : Nat) (h : t < 2^52) : 0 < D.quiet t % 2^52 := by
  show 0 < (t ||| 2^(52-1)) % 2^52
  have h1 : t ||| 2^51 < 2^52 := Nat.or_lt_two_pow h (by omega)
  have h2 : 2^51 ≤ t ||| 2^51 := Nat.right_le_or
  rw [Nat.mod_eq_of_lt h1]; omega
theorem read_nan' (w : Nat) (h : Nan w) : ∃ s t, D.read w = .nan s t ∧ t < 2^52 := by
  unfold Nan infR at h
  unfold Ieee.Format.read
  rw [lp, bn, ir, sw]
  dsimp only
  rw [if_neg (by omega), if_neg (by omega), if_neg (by omega)]
  exact ⟨_, _, rfl, by omega⟩
theorem run_rte_nan (x : Nat) (h : Nan x) (w : World) : ∃ b k, Nan b ∧ (callFunc 32 #[.float .f64 x]).run Tryd.prog w = .ok (.value (.float .f64 b)) (w.drewN k) := by
  rw [run_callFunc_extern Tryd.func32 (by kernel_rfl) (by kernel_rfl) (by kernel_rfl) rte_entry]
  obtain ⟨s, t, g, ht⟩ := read_nan' x h
  change ∃ b k, Nan b ∧ Result.andThen (Sem.run _ (match D.read x with | .nan s t => (if FloatKind.f64.format.quiet t = t then _ else _) | d => _) _) _ = _
  rw [g]
  dsimp only
  by_cases q : FloatKind.f64.format.quiet t = t
  · rw [if_pos q]; exact ⟨x, 0, h, rfl⟩
  · rw [if_neg q]
    simp only [Sem.run_bind, run_choose_drew, Question.forced]
    simp only [show decide (2 = 1) = false from rfl, Bool.false_eq_true, if_false, Result.andThen]
    generalize (Question.extern _ 2).cut _ = c
    by_cases c1 : (c == 1) = true
    · simp only [c1, if_true]; exact ⟨x, 1, h, rfl⟩
    · simp only [c1, Bool.false_eq_true, if_false]; exact ⟨_, 1, nan_write s _ (quiet_pos t ht), rfl⟩
/-- a sum that is no number: some bits of none -/
theorem run_none (op : BinOp) (hop : op = .add ∨ op = .sub ∨ op = .mul ∨ op = .quo) (x y : Nat) (h : floatBits op .f64 x y = none) (w : World) :
    ∃ b, Nan b ∧ b < 2^64 ∧ ∀ t, (binOp op t (.float .f64 x) (.float .f64 y)).run Tryd.prog w = .ok (.float .f64 b) w.drew := by
  refine ⟨(Question.nanBits .f64 x y).cut (w.tape w.drawn (.nanBits .f64 x y)), ?_, ?_, ?_⟩
  · generalize w.tape w.drawn (.nanBits .f64 x y) = t
    show infR < ((t % 2) * 2 ^ 63 + 0x7ff0000000000000 + 1 + (t / 2) % (2 ^ 52 - 1)) % 2^63
    have h1 := Nat.mod_lt (t/2) (show 0 < 2^52-1 by omega)
    unfold infR
    generalize (t/2) % (2^52-1) = c at *
    omega
  · generalize w.tape w.drawn (.nanBits .f64 x y) = t
    show ((t % 2) * 2 ^ 63 + 0x7ff0000000000000 + 1 + (t / 2) % (2 ^ 52 - 1)) < 2^64
    omega
  · intro t
    unfold floatBits at h
    rcases hop with rfl | rfl | rfl | rfl <;> simp only at h <;> simp [binOp, Op.floatArith, h, Question.forced]
theorem floatBits_mul (x y : Nat) : floatBits .mul .f64 x y = D.mul x y := rfl
theorem floatBits_add (x y : Nat) : floatBits .add .f64 x y = D.add x y := rfl
theorem floatBits_sub (x y : Nat) : floatBits .sub .f64 x y = D.sub x y := rfl
theorem floatBits_quo (x y : Nat) : floatBits .quo .f64 x y = D.div x y := rfl
/-- either bits, or none: some bits of none -/
theorem run_arith (op : BinOp) (hop : op = .add ∨ op = .sub ∨ op = .mul ∨ op = .quo) (x y : Nat) (w : World) :
    ∃ b k, (floatBits op .f64 x y = some b ∨ (floatBits op .f64 x y = none ∧ Nan b)) ∧ b < 2^64 ∧ ∀ t, (binOp op t (.float .f64 x) (.float .f64 y)).run Tryd.prog w = .ok (.float .f64 b) (w.drewN k) := by
  cases h : floatBits op .f64 x y with
  | some b =>
    refine ⟨b, 0, .inl rfl, ?_, fun t => run_float_arith w op t .f64 x y b h⟩
    have := floatBits_wf h
    simpa [Lit.wf] using this
  | none =>
    obtain ⟨b, h1, h2, h3⟩ := run_none op hop x y h w
    exact ⟨b, 1, .inr ⟨rfl, h1⟩, h2, h3⟩
@[go_sem] theorem unary_negf (b : Nat) : Op.unary .neg (.float .f64 b) = pure (.float .f64 (b ^^^ 2^63)) := rfl
def absB (b : Nat) : Nat := b % 2^63
end Go.Proofs.YtlikknamliamiaaDoor
