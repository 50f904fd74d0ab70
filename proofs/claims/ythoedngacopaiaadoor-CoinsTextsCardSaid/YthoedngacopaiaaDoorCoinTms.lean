/-
  CoinsTimes: the walk. The table of powers of ten reads as the program's text lays it, and the variable of the library's search in place 0 is a number.
-/
import Derived.Test.YthoedngacopaiaaDoorCoinLives
namespace Go.Proofs.YthoedngacopaiaaDoor
set_option linter.unusedVariables false
open Go.RowKit
theorem isum_rep (a : Int) (k : Nat) : isum (List.replicate k a) = a * (k : Int) := by
  induction k with
  | zero => simp [isum_nil]
  | succ k ih => rw [List.replicate_succ, isum_cons, ih, Int.natCast_add, Int.mul_add]; omega
theorem umod_lit (x : Int) (m : Nat) (h0 : 0 < m) (h1 : m ≤ 1000000) : ∃ k : Nat, k < m ∧ wrap64 ((IntKind.u64.wrap x).tmod (m : Int)) = (k : Int) ∧ (IntKind.u64.wrap x).tmod (m : Int) = (k : Int) ∧ IntKind.u64.wrap x % (m : Int) = (k : Int) := by
  have hx := (wrap_u64_lt x).1
  generalize IntKind.u64.wrap x = q at hx
  have e : q.tmod (m : Int) = q % (m : Int) := Int.tmod_eq_emod_of_nonneg hx
  have l1 := Int.emod_nonneg q (b := (m : Int)) (by omega)
  have l2 := Int.emod_lt_of_pos q (show (0 : Int) < (m : Int) by omega)
  refine ⟨(q % (m : Int)).toNat, by omega, ?_, by omega, by omega⟩
  rw [e, IntWalk.wrap64_in _ ⟨by omega, by omega⟩]
  omega
def TmRel (w : World) (a : Int) (j : Nat) (v : Value) (wr : World) : Prop := ∃ A c, v = .slice A j c ∧ OwI wr A j c (List.replicate j a) ∧ Fresh w A ∧ Mod none_ w wr
set_option maxRecDepth 100000 in
set_option maxHeartbeats 2000000 in
theorem coinsTimes_walk (w : World) (a n : Int) (ha : I64 a) (hG : Gw w) : Calls Tryd.prog 9 #[.int .i64 a, .int .i64 n] w fun e w' => e = .returned (.bool true) ∧ Below w.heap.size w w' := by
  have hl := Lib.hid (lives_ok w hG)
  obtain ⟨k, hk, u1, u2, u3⟩ := umod_lit n 100 (by omega) (by omega)
  rw [show ((100 : Nat) : Int) = 100 from rfl] at u1 u2 u3
  obtain ⟨p1, q1, e1⟩ : ∃ p q, sumR (a * (k : Int)) = (p, q) := ⟨_, _, rfl⟩
  obtain ⟨p2, q2, e2⟩ : ∃ p q, sumR (a + a) = (p, q) := ⟨_, _, rfl⟩
  have t1 := Lib.hid (fun W (e : Ending) (w' : World) (h : SumPost (sumR (a * (k : Int))) W e w') => h.of e1)
  have t2 := Lib.hid (fun W (e : Ending) (w' : World) (h : SumPost (sumR (isum (List.replicate k a))) W e w') => by rw [isum_rep] at h; exact h.of e1)
  have t3 := Lib.hid (fun W (e : Ending) (w' : World) (h : SumPost (sumR ((k : Int) * a)) W e w') => by rw [Int.mul_comm] at h; exact h.of e1)
  have t4 := Lib.hid (fun W (e : Ending) (w' : World) (h : SumPost (sumR (a * 2)) W e w') => by rw [show a * 2 = a + a by omega] at h; exact h.of e2)
  have t5 := Lib.hid (fun W (e : Ending) (w' : World) (h : SumPost (sumR (a + a)) W e w') => h.of e2)
  clear e1 e2
  replace ha := Lib.hid ha
  go_enter Tryd.func9, Tryd.ntmps9
  go_wp2_with fail
  refine hl.out.mono ?_
  rintro e w1 ⟨rfl, hm1⟩
  dsimp only
  replace hm1 := Lib.hid hm1
  go_wp2_with fail
  clear u1 u2 u3
  go_loopw [5, 6] (fun v x wr => ∃ j : Nat, x = .int .i64 j ∧ j ≤ k ∧ TmRel w a j v wr) (fun _ x _ => k - (intOf x).toNat)
  case atStart => exact ⟨0, rfl, by omega, none, 0, rfl, Ow.nil _ _ _, (fun _ h => by cases h), hm1.out⟩
  case round =>
    obtain ⟨j, rfl, hj, A, c, rfl, ho, hf, hm⟩ := hrel
    replace ho := Lib.hid ho
    replace hf := Lib.hid hf
    replace hm := Lib.hid hm
    by_cases hlt : j < k
    · go_wp2_with (at_builtin; go_loud (refine app64 rfl (.tmp 28) (.tmp 30) rfl rfl (ho.out.mod0 ((Mod.refl none_ _).alloc _)) rfl (rdi_one _ _ _) (by omega) ?_; intro A' c' w' ho' hm' hA'; replace ho' := Lib.hid ho'; replace hm' := Lib.hid hm'; replace hA' := Lib.hid hA'))
      go_roundw
      case rel =>
        refine ⟨j + 1, by go_num, by omega, A', c', rfl, ?_, Fresh.app hf.out (hm.out.alloc _).size hA'.out, (hm.out.alloc _).app hf.out hm'.out⟩
        have := ho'.out
        rwa [← List.replicate_succ'] at this
      case measure => simp [intOf]; omega
    · have hjk : j = k := by omega
      subst hjk
      have hr := Lib.hid ho.out.rd
      have hin : I64s (List.replicate j a) := fun x hx => by rw [List.eq_of_mem_replicate hx]; exact ha.out
      replace hin := Lib.hid hin
      go_wp2_with fail
      refine (times_ok wr a (j : Int) ha.out ⟨by omega, by omega⟩).mono ?_
      rintro e w2 hp
      obtain ⟨rfl, rfl⟩ := t1.out _ _ _ hp
      clear hp
      dsimp only
      go_wp2_with fail
      refine (total_ok wr A j c _ hr.out (by omega) hin.out).mono ?_
      rintro e w2 hp
      obtain ⟨rfl, rfl⟩ := t2.out _ _ _ hp
      clear hp
      dsimp only
      go_wp2_with fail
      refine (times_ok wr (j : Int) a ⟨by omega, by omega⟩ ha.out).mono ?_
      rintro e w2 hp
      obtain ⟨rfl, rfl⟩ := t3.out _ _ _ hp
      clear hp
      dsimp only
      go_wp2_with fail
      refine (times_ok wr a 2 ha.out ⟨by omega, by omega⟩).mono ?_
      rintro e w2 hp
      obtain ⟨rfl, rfl⟩ := t4.out _ _ _ hp
      clear hp
      dsimp only
      go_wp2_with fail
      refine (add_ok wr a a ha.out ha.out).mono ?_
      rintro e w2 hp
      obtain ⟨rfl, rfl⟩ := t5.out _ _ _ hp
      clear hp
      dsimp only
      go_wp2_with fail
      go_ret
      exact ⟨rfl, hm.out.below0⟩
end Go.Proofs.YthoedngacopaiaaDoor
