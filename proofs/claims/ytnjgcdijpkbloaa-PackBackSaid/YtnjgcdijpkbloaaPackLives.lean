/-
  What every law of chapter 2 begins with: a number and a text are written and read. No condition.
-/
import Derived.Test.YtnjgcdijpkbloaaPack
import Derived.Test.YtnjgcdijpkbloaaRNums
namespace Go.Proofs.Ytnjgcdijpkbloaa
set_option linter.unusedVariables false
open Go.RowKit
theorem k_m1 : vb (zig (-1)) = [1] := by decide
theorem k_ab : txtB [97, 98] = [4, 97, 98] := by decide
theorem k_rn : rn [1, 4, 97, 98] 0 = (-1, 0, [4, 97, 98]) := by decide
theorem k_rt : rt 5 [4, 97, 98] 0 = ([97, 98], 0, []) := by decide
theorem k_txt : (Value.string { data := #[97, 98] }) = .string (txt [97, 98]) := rfl
theorem NumPost.m1 {w : World} {e : Ending} {w' : World} (h : NumPost w (-1) e w') : ∃ A c, e = .returned (.slice A 1 c) ∧ OwB w' 5 A 1 c [1] ∧ Fresh w A ∧ Mod none_ w w' := by
  obtain ⟨A, k, c, h1, h2, h3, h4, _⟩ := h
  rw [k_m1] at h2
  have := h2.len
  simp at this
  subst this
  exact ⟨A, c, h1, h2, h3, h4⟩
theorem BytesPost.ab {w : World} {e : Ending} {w' : World} (h : BytesPost w (txtB [97, 98]) e w') : ∃ A c, e = .returned (.slice A 3 c) ∧ OwB w' 5 A 3 c [4, 97, 98] ∧ Fresh w A ∧ Mod none_ w w' := by
  rw [k_ab] at h
  exact h
theorem Fresh.fp_apart {w w1 : World} {A B : Option Addr} (hA : ∀ k, fp A k → k < w1.heap.size) (hB : Fresh w1 B) : ∀ k, fp B k → ¬ fp A k := by
  rintro k ⟨b, hb, rfl⟩ hk
  have := hA _ hk
  have := hB b hb
  omega
set_option maxRecDepth 100000 in
set_option maxHeartbeats 1000000 in
theorem lives_ok (w : World) : Calls Try.prog 6 #[] w fun e w' => e = .returned (.bool true) ∧ Mod none_ w w' := by
  go_enter Try.func6, Try.ntmps6
  go_wp2_with fail
  refine (num_ok _ (-1) (by omega) (by omega)).mono ?_
  rintro e w1 hp
  obtain ⟨A, c, rfl, ho, hf, hm⟩ := hp.m1
  dsimp only
  replace ho := Lib.hid ho
  replace hf := Lib.hid hf
  replace hm := Lib.hid hm
  go_wp2_with fail
  refine (text_ok _ [97, 98] (by simp)).mono ?_
  rintro e w2 hp2
  obtain ⟨B, d, rfl, ho2, hf2, hm2⟩ := hp2.ab
  dsimp only
  have ho1 := ho.out.mod0 hm2
  replace ho1 := Lib.hid ho1
  replace ho2 := Lib.hid ho2
  replace hf2 := Lib.hid hf2
  replace hm2 := Lib.hid hm2
  go_wp2_with (at_builtin; go_loud (refine app8 rfl (.tmp 6) (.tmp 7) rfl rfl ho1.out rfl ho2.out.rd (by omega) ?_; intro A' c' w' h1 h2 h3; replace h1 := Lib.hid h1; replace h2 := Lib.hid h2; replace h3 := Lib.hid h3))
  refine (new_ok w' A' 4 c' [1, 4, 97, 98] h1.out.rd (by omega)).mono ?_
  rintro e w3 ⟨g, B3, rfl, hR, hg, hB, hB2, hm3⟩
  dsimp only
  have hmm : Mod none_ w w3 := ((hm.out.trans hm2.out).then h2.out (fun i hi hk => by obtain ⟨a, ha, rfl⟩ := hk; have := hf.out a ha; omega)).trans hm3
  have hgw : w.heap.size ≤ g := by have := (hm.out.trans hm2.out).size; have := h2.out.size; omega
  clear hp hp2
  replace hR := Lib.hid hR
  replace hmm := Lib.hid hmm
  replace hm3 := Lib.hid hm3
  go_wp2_with fail
  have hc := rnum_ok w3 g B3 0 _ hR.out
  rw [k_rn] at hc
  refine hc.mono ?_
  rintro e w4 hp
  obtain ⟨rfl, hR4, hm4⟩ := hp.zero
  dsimp only
  clear hc hp
  replace hR4 := Lib.hid hR4
  replace hm4 := Lib.hid hm4
  go_wp2_with fail
  have hc := rtext_ok w4 g B3 0 _ 5 hR4.out (by omega)
  rw [k_rt] at hc
  refine hc.mono ?_
  rintro e w5 ⟨rfl, hR5, hm5⟩
  dsimp only
  clear hc
  dsimp only at hR5
  replace hR5 := Lib.hid hR5
  replace hm5 := Lib.hid hm5
  go_wp2_with fail
  refine (done_ok w5 g B3 0 [] hR5.out).mono ?_
  rintro e w6 ⟨rfl, hm6⟩
  dsimp only
  replace hm6 := Lib.hid hm6
  go_wp2_with fail
  refine (num_ok _ (-1) (by omega) (by omega)).mono ?_
  rintro e w7 hp
  obtain ⟨C, c7, rfl, _, _, hm7⟩ := hp.m1
  dsimp only
  replace hm7 := Lib.hid hm7
  clear hp
  go_wp2_with fail
  go_ret
  refine ⟨rfl, ?_⟩
  have hg3 : ∀ k, k < w.heap.size → only g k → none_ k := by intro k hk h; unfold only at h; omega
  exact ((((hmm.out.then hm4.out hg3).then hm5.out hg3).then hm6.out hg3).trans hm7.out)
end Go.Proofs.Ytnjgcdijpkbloaa
