import Derived.Test.YtimlfdihodoolaaGreatZp13
import Derived.Test.YtimlfdihodoolaaGreatZp8
import Derived.Test.YtimlfdihodoolaaGreatZp17
/-
  Fresh bytes that grow: what a chain of appends holds. No condition.
-/
namespace Go.Proofs.YtimlfdihodoolaaGreat
set_option linter.unusedVariables false
set_option linter.unusedSimpArgs false
open Go.RowKit
/-- fresh bytes, and how many at most -/
structure Acc (w1 w : World) (A : Option Addr) (n c : Nat) (l : List UInt8) (b : Nat) : Prop where
  ow : OwB w 5 A n c l
  fr : Fresh w1 A
  le : n ≤ b
theorem Acc.mod0 {w1 w w' : World} {A : Option Addr} {n c : Nat} {l : List UInt8} {b : Nat} (h : Acc w1 w A n c l b) (hm : Mod none_ w w') : Acc w1 w' A n c l b := ⟨h.ow.mod0 hm, h.fr, h.le⟩
theorem Acc.len {w1 w : World} {A : Option Addr} {n c : Nat} {l : List UInt8} {b : Nat} (h : Acc w1 w A n c l b) : l.length = n := (h.ow : OwB _ _ _ _ _ _).len
/-- what a call for bytes answers -/
def AccPost (w1 w : World) (l : List UInt8) (b : Nat) (e : Ending) (w' : World) : Prop := ∃ A n c, e = .returned (.slice A n c) ∧ Acc w1 w' A n c l b ∧ Mod none_ w w' ∧ Mod none_ w1 w'
theorem acc_call {f : FuncId} {args : Array Value} {w1 w : World} {l : List UInt8} (b : Nat) (h : Calls Tryz.prog f args w (BytesPost w l)) (hM : Mod none_ w1 w) (hb : l.length ≤ b) : Calls Tryz.prog f args w (AccPost w1 w l b) :=
  h.mono (by
    rintro e w' ⟨A, c, rfl, ho, hf, hm⟩
    exact ⟨A, _, c, rfl, ⟨ho, fun a ha => Nat.le_trans hM.size (hf a ha), hb⟩, hm, hM.trans hm⟩)
theorem step_acc {w1 w : World} {ops : Array Oper} {o : Oper} {a : Act} {K : Act → World → Prop} {Q : Exit → Act → World → Prop} {E : Prop} (hgd : o.guard = none) (s x : Operand)
    (ho : o.op = .call { callee := .builtin .append, args := #[s, x], argTypes := #[22, 22] })
    (hM : Mod none_ w1 w) {A : Option Addr} {n c b : Nat} {xs : List UInt8} (hs : a.eval s = .slice A n c) (h1 : Acc w1 w A n c xs b)
    {S : Option Addr} {m d k : Nat} {ys : List UInt8} (hx : a.eval x = .slice S m d) (h2 : Acc w1 w S m d ys k) (hb : b + k ≤ 100000000)
    (h : ∀ A' n' c' w', Acc w1 w' A' n' c' (xs ++ ys) (b + k) → Mod none_ w1 w' → Mod (fp A) w w' → (A' = A ∨ A' = some ⟨w.heap.size, 0, none⟩) → K (a.put o.dst (.slice A' n' c')) w') : if Region.wanted o (yielded ops a.tmps) = true then Oper.wp Tryz.prog o a w K Q else E := by
  obtain ⟨i0, hi, hz0, hz1, hz2⟩ := info_parts u8info
  have e1 := h1.le
  have e2 := h2.le
  refine step_append_ow hgd s x 22 ho 5 i0 _ 1 1 Tryz.underlying22 hi hz0 hz1 hz2 rfl (by omega) A n c (bvs xs) hs h1.ow S m d (bvs ys) hx h2.ow.rd (bvs_one _) (by omega) (by omega) ?_
  intro A' c' w' h3 hm hA
  rw [← bvs_append] at h3
  exact h A' (n + m) c' w' ⟨h3, Fresh.app h1.fr hM.size hA, by omega⟩ (hM.app h1.fr hm) hm hA
theorem app_acc {w1 w : World} {ops : Array Oper} {rest : List Oper} {o : Oper} {a : Act} {Q : Exit → Act → World → Prop} (hgd : o.guard = none) (s x : Operand)
    (ho : o.op = .call { callee := .builtin .append, args := #[s, x], argTypes := #[22, 22] })
    (hM : Mod none_ w1 w) {A : Option Addr} {n c b : Nat} {xs : List UInt8} (hs : a.eval s = .slice A n c) (h1 : Acc w1 w A n c xs b)
    {S : Option Addr} {m d k : Nat} {ys : List UInt8} (hx : a.eval x = .slice S m d) (h2 : Acc w1 w S m d ys k) (hb : b + k ≤ 100000000)
    (h : ∀ A' n' c' w', Acc w1 w' A' n' c' (xs ++ ys) (b + k) → Mod none_ w1 w' → Mod (fp A) w w' → wpList Tryz.prog ops Q rest (a.put o.dst (.slice A' n' c')) w') : wpList Tryz.prog ops Q (o :: rest) a w := by
  have e1 := h1.le
  have e2 := h2.le
  refine app8 hgd s x ho hs h1.ow hx h2.ow.rd (by omega) ?_
  intro A' c' w' h3 hm hA
  exact h A' (n + m) c' w' ⟨h3, Fresh.app h1.fr hM.size hA, by omega⟩ (hM.app h1.fr hm) hm
theorem Acc.nil (w1 w : World) : Acc w1 w none 0 0 [] 0 := ⟨Ow.nil _ _ _, (fun _ h => by cases h), Nat.le_refl _⟩
theorem r2numB_ok (w : World) (n : Int) (h : in64 n) : Calls Tryz.prog 74 #[.int .i64 n] w (BytesPost w (nb n)) :=
  (r2num_ok w n h.1 h.2).mono (by
    rintro e w' ⟨A, k, c, rfl, ho, hf, hm, hk⟩
    have hl := ho.len
    subst hl
    exact ⟨A, c, rfl, ho, hf, hm⟩)
theorem r6num_ok (w : World) (n : Int) (h : in64 n) : Calls Tryz.prog 78 #[.int .i64 n] w (BytesPost w (nb n)) := by
  go_enter Tryz.func78, Tryz.ntmps78
  go_wp2_with fail
  refine (r2numB_ok _ _ h).mono ?_
  rintro e w1 ⟨A, c, rfl, ho, hf, hm⟩
  dsimp only
  replace ho := Lib.hid ho
  replace hf := Lib.hid hf
  replace hm := Lib.hid hm
  go_wp2_with fail
  go_ret
  exact ⟨A, c, rfl, ho.out, hf.out, hm.out⟩
theorem r15num_ok (w : World) (n : Int) (h : in64 n) : Calls Tryz.prog 50 #[.int .i64 n] w (BytesPost w (nb n)) := by
  go_enter Tryz.func50, Tryz.ntmps50
  go_wp2_with fail
  refine (r2numB_ok _ _ h).mono ?_
  rintro e w1 ⟨A, c, rfl, ho, hf, hm⟩
  dsimp only
  replace ho := Lib.hid ho
  replace hf := Lib.hid hf
  replace hm := Lib.hid hm
  go_wp2_with fail
  go_ret
  exact ⟨A, c, rfl, ho.out, hf.out, hm.out⟩
end Go.Proofs.YtimlfdihodoolaaGreat
