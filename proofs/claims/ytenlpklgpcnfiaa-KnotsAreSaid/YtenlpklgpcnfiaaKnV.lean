/-
  Knots: lives.
-/
import Derived.Test.YtenlpklgpcnfiaaKnW
import Derived.Test.YtenlpklgpcnfiaaKnVP
import Derived.Test.YtenlpklgpcnfiaaKnC
namespace Go.Proofs.Ytenlpklgpcnfiaa
set_option linter.unusedVariables false
open Go.RowKit
/-- a list of graphs' rows, laid by hand -/
theorem rdg_lit {w : World} {A : Option Addr} {n : Nat} (ps : List (SV × List Int)) (h1 : Rd w 1 A n ((ps.map (·.1)).map SV.v)) (h2 : ∀ p ∈ ps, RdI w p.1.a p.1.n p.2 ∧ p.1.n ≤ p.1.c ∧ p.1.n ≤ 140737488355328) : RdG w A n (ps.map (·.1)) (ps.map (·.2)) := by
  refine ⟨h1, by simp, fun i s l hs hl => ?_⟩
  rw [List.getElem?_map] at hs hl
  cases he : ps[i]? with
  | none => rw [he] at hs; cases hs
  | some p =>
    rw [he] at hs hl
    cases hs; cases hl
    exact h2 p (List.mem_of_getElem? he)
def LivPost (W : World) (e : Ending) (w' : World) : Prop := ∃ G c ss, e = .returned (.slice G 2 c) ∧ OwG w' G 2 c ss [[1, 2], [0]] ∧ Mod none_ W w'
set_option maxRecDepth 100000 in
set_option maxHeartbeats 4000000 in
theorem lives_ok (w : World) : Calls Try.prog 9 #[] w fun e w' => e = .returned (.bool true) ∧ Mod none_ w w' := by
  have kK := Lib.hid (fun W A n c ss (h : RdG W A n ss gL) (hn : n ≤ 100000) => (knots_ok W A n c ss gL h hn).mono (fun e w' (hh : KnPost gL W e w') => show LivPost W e w' from by
    obtain ⟨ks, h1, G, c, ss, h2, h3, _, h4⟩ := hh
    obtain rfl := kseq_one h1 kseq_gL
    exact ⟨G, c, ss, h2, h3, h4⟩))
  have kM := Lib.hid (fun W A n c ss (h : RdG W A n ss gM) (hn : n ≤ 1000000) (hf : 0 < n) => show Calls Try.prog 13 #[.slice A n c, .int .i64 0] W (ReachPost (reachL gM 0) W) from reach_ok W A n c ss gM h hn 0 hf)
  have kN := Lib.hid (fun W A n c ss (h : RdG W A n ss gN) (hn : n ≤ 1000000) KA kn kc (hk : Rd W 1 KA kn (tvs [true])) (hkn : kn ≤ 140737488355328) => open_ok W A n c ss gN h hn KA kn kc [true] hk hkn)
  go_enter Try.func9, Try.ntmps9
  go_wp2_with fail
  with_reducible refine (kK.out _ _ _ _ [⟨some ⟨w.heap.size, 0, none⟩, 1, 1⟩, ⟨some ⟨w.heap.size + 1, 0, none⟩, 1, 1⟩, ⟨some ⟨w.heap.size + 2, 0, none⟩, 1, 1⟩] ?_ (by omega)).mono ?_
  · refine rdg_lit [(⟨some ⟨w.heap.size, 0, none⟩, 1, 1⟩, [1]), (⟨some ⟨w.heap.size + 1, 0, none⟩, 1, 1⟩, [2]), (⟨some ⟨w.heap.size + 2, 0, none⟩, 1, 1⟩, [1])] ?_ ?_
    · exact rdn _ _ 1 3 _ #[_, _, _] (0, 0) (by simp) rfl
    · intro p hp
      have h1 := ((Mod.refl none_ (w.alloc (.cells #[.int .i64 1] 3))).alloc (.cells #[.int .i64 2] 3)).alloc (.cells #[.int .i64 1] 3)
      have h2 := (Mod.refl none_ ((w.alloc (.cells #[.int .i64 1] 3)).alloc (.cells #[.int .i64 2] 3))).alloc (.cells #[.int .i64 1] 3)
      simp only [List.mem_cons, List.not_mem_nil, or_false] at hp
      rcases hp with rfl | rfl | rfl
      · exact ⟨Rd.mod0 (rdi_one' w _ _ rfl 1) (h1.alloc _), Nat.le_refl _, (by dsimp only; omega)⟩
      · exact ⟨Rd.mod0 (rdi_one' _ _ _ (by simp) 2) (h2.alloc _), Nat.le_refl _, (by dsimp only; omega)⟩
      · exact ⟨Rd.mod0 (rdi_one' _ _ _ (by simp) 1) ((Mod.refl none_ _).alloc _), Nat.le_refl _, (by dsimp only; omega)⟩
  rintro e w1 ⟨G, c, ss, rfl, hO, hm1⟩
  dsimp only
  obtain ⟨b, o, B0, k0, c0, l0, hG, y0, hl0, hr0, _, _⟩ := hO.rd.get (show 0 < 2 by omega)
  obtain ⟨b', o', B1, k1, c1, l1, hG', y1, hl1, hr1, _, _⟩ := hO.rd.get (show 1 < 2 by omega)
  subst hG
  cases hG'
  rw [Nat.add_zero] at y0
  cases hl0
  cases hl1
  obtain rfl : k0 = 2 := by have := hr0.len; simp at this; omega
  obtain rfl : k1 = 1 := by have := hr1.len; simp at this; omega
  have hmw : Mod none_ w w1 := ((((Mod.refl none_ w).alloc _).alloc _).alloc _ |>.alloc _).trans hm1
  have s0 := Lib.hid (fun W (h : Mod none_ w1 W) A d (hA : RdI W A 2 [1, 2]) => show Calls Try.prog 12 #[.slice B0 2 c0, .slice A 2 d] W (fun e w' => e = .returned (.bool true) ∧ ∃ k, w' = W.drewN k) from sameZ_ok W B0 A 2 2 c0 d _ _ (Rd.mod0 hr0 h) hA (by omega) (by omega))
  have s1 := Lib.hid (fun W (h : Mod none_ w1 W) A d (hA : RdI W A 1 [0]) => show Calls Try.prog 12 #[.slice B1 1 c1, .slice A 1 d] W (fun e w' => e = .returned (.bool true) ∧ ∃ k, w' = W.drewN k) from sameZ_ok W B1 A 1 1 c1 d _ _ (Rd.mod0 hr1 h) hA (by omega) (by omega))
  have gb := World.block_lt_of_cell? w1 _ y0
  clear hm1
  replace hO := Lib.hid hO
  replace hr0 := Lib.hid hr0
  replace hr1 := Lib.hid hr1
  replace hmw := Lib.hid hmw
  go_wp2_with fail
  with_reducible refine (s0.out _ ((Mod.refl none_ _).alloc _) _ _ ?_).mono ?_
  · exact rdn _ _ 1 2 _ #[.int .i64 1, .int .i64 2] (0, 0) rfl rfl
  rintro e w2 ⟨rfl, q2, hw2⟩
  dsimp only
  have hm2 : Mod none_ w1 w2 := by rw [hw2]; exact ((Mod.refl none_ w1).alloc _).drewN _
  have y2 := hm2.cell_some y1 (fun h => h)
  have gb2 := World.block_lt_of_cell? w2 _ y2
  clear hw2
  replace hm2 := Lib.hid hm2
  go_wp2_with fail
  with_reducible refine (s1.out _ (hm2.out.alloc _) _ _ (rdi_one _ _ 0)).mono ?_
  rintro e w3 ⟨rfl, q3, hw3⟩
  dsimp only
  have hm3 : Mod none_ w w3 := by rw [hw3]; exact ((hmw.out.trans hm2.out).alloc _).drewN _
  clear hw3
  replace hm3 := Lib.hid hm3
  go_wp2_with fail
  with_reducible refine (kM.out _ _ 2 2 [⟨some ⟨w3.heap.size, 0, none⟩, 1, 1⟩, ⟨none, 0, 0⟩] ?_ (by omega) (by omega)).mono ?_
  · refine rdg_lit [(⟨some ⟨w3.heap.size, 0, none⟩, 1, 1⟩, [1]), (⟨none, 0, 0⟩, [])] ?_ ?_
    · exact rdn _ _ 1 2 _ #[_, _] (0, 0) (by simp) rfl
    · intro p hp
      simp only [List.mem_cons, List.not_mem_nil, or_false] at hp
      rcases hp with rfl | rfl
      · exact ⟨Rd.mod0 (rdi_one' w3 _ _ rfl 1) ((Mod.refl none_ _).alloc _), Nat.le_refl _, (by dsimp only; omega)⟩
      · exact ⟨Rd.none_, Nat.le_refl _, (by dsimp only; omega)⟩
  rintro e w4 ⟨B4, c4, rfl, _, _, hm4⟩
  dsimp only
  rw [reach_gM]
  have hm5 : Mod none_ w w4 := ((hm3.out.alloc _).alloc _).trans hm4
  clear hm4
  replace hm5 := Lib.hid hm5
  go_wp2_with fail
  with_reducible refine (kN.out _ _ 1 1 [⟨none, 0, 0⟩] ?_ (by omega) _ 1 1 ?_ (by omega)).mono ?_
  · refine rdg_lit [(⟨none, 0, 0⟩, [])] ?_ ?_
    · exact Rd.mod0 (rdn w4 _ 1 1 _ #[.slice none 0 0] (0, 0) rfl rfl) ((Mod.refl none_ _).alloc _)
    · intro p hp
      simp only [List.mem_cons, List.not_mem_nil, or_false] at hp
      subst hp
      exact ⟨Rd.none_, Nat.le_refl _, (by dsimp only; omega)⟩
  · exact rdn _ _ 1 1 _ #[.bool true] (0, 0) (by simp) rfl
  rintro e w6 ⟨B6, c6, rfl, _, _, hm6⟩
  dsimp only
  rw [open_gN]
  have hm7 : Mod none_ w w6 := ((hm5.out.alloc _).alloc _).trans hm6
  clear hm6
  replace hm7 := Lib.hid hm7
  go_wp2_with fail
  go_ret
  exact ⟨rfl, hm7.out⟩
end Go.Proofs.Ytenlpklgpcnfiaa
