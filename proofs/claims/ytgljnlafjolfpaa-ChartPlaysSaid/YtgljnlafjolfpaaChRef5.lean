/-
  A step of a script on the reference's chart.
-/
import Derived.Test.YtgljnlafjolfpaaChRef4
namespace Go.Proofs.Ytgljnlafjolfpaa
set_option linter.unusedVariables false
open Go.RowKit
set_option maxRecDepth 100000 in
set_option maxHeartbeats 2000000 in
theorem doesref_ok (w : World) (q B : Nat) (C : List Ac) (k x : Int) (s : List UInt8) (hc : RefAt w q B C) (hz : (txt s).size ≤ maxLen) (hs : SortedC C) (ho : OkC C) (hx : I64 x) (hB : B ≤ w.heap.size) :
    Calls Try.prog 20 #[.pointer (some ⟨q, 0, none⟩), .agg #[.int .i64 k, .string (txt s), .int .i64 x]] w (RfPost w q B (stepR C (kindN k) s x)) := by
  have ck := Lib.hid (fun W => kind_ok W k x (txt s))
  obtain ⟨n, hn4, hkn, _⟩ := kind_num k
  rw [hkn] at ck ⊢
  have c0 := Lib.hid (fun W (h : RefAt W q B C) (hW : B ≤ W.heap.size) => ropen_ok W q B C s x h hs ho hz hW)
  have c1 := Lib.hid (fun W (h : RefAt W q B C) (hW : B ≤ W.heap.size) => rgive_ok W q B C s x h hs ho hx hW)
  have c2 := Lib.hid (fun W (h : RefAt W q B C) (hW : B ≤ W.heap.size) => raside_ok W q B C s x h hs ho hx hW)
  have c3 := Lib.hid (fun W (h : RefAt W q B C) => rget_ok W q B C s h (by have := ho.2; omega))
  have hn : n = 0 ∨ n = 1 ∨ n = 2 ∨ n = 3 := by omega
  unfold stepR
  replace hc := Lib.hid hc
  replace hs := Lib.hid hs
  replace ho := Lib.hid ho
  replace hx := Lib.hid hx
  replace hkn := Lib.hid hkn
  replace hz := Lib.hid hz
  rcases hn with rfl | rfl | rfl | rfl
  · rw [if_pos rfl]
    generalize openR C s x = r at *
    go_enter Try.func20, Try.ntmps20
    go_wp2_with fail
    refine (ck.out _).mono ?_
    rintro e w1 ⟨rfl, hm⟩
    dsimp only
    have hm1 := Lib.hid (((Mod.refl none_ w).alloc (.cells #[.int .i64 k, .string (txt s), .int .i64 x] 28)).then hm (fun _ _ h => h))
    have hb := (Blk.new w 28 #[.int .i64 k, .string (txt s), .int .i64 x]).mod hm (fun h => h)
    have e1 : w1.cell? ⟨w.heap.size, 1, none⟩ = some (.string (txt s)) := hb.cell_ rfl
    have e2 : w1.cell? ⟨w.heap.size, 2, none⟩ = some (.int .i64 x) := hb.cell_ rfl
    clear hm hb
    go_wp2_with fail
    refine (c0.out _ (hc.out.mod0 hm1.out) (Nat.le_trans hB hm1.out.size)).mono ?_
    rintro e w2 ⟨rfl, hch, hm2⟩
    dsimp only
    replace hch := Lib.hid hch
    replace hm2 := Lib.hid hm2
    go_wp2_with fail
    go_ret
    exact ⟨rfl, hch.out, (hm1.out.any _).trans hm2.out⟩
  · rw [if_neg (by omega), if_pos rfl]
    generalize turnR C s x (giveA x) = r at *
    go_enter Try.func20, Try.ntmps20
    go_wp2_with fail
    refine (ck.out _).mono ?_
    rintro e w1 ⟨rfl, hm⟩
    dsimp only
    have hm1 := Lib.hid (((Mod.refl none_ w).alloc (.cells #[.int .i64 k, .string (txt s), .int .i64 x] 28)).then hm (fun _ _ h => h))
    have hb := (Blk.new w 28 #[.int .i64 k, .string (txt s), .int .i64 x]).mod hm (fun h => h)
    have e1 : w1.cell? ⟨w.heap.size, 1, none⟩ = some (.string (txt s)) := hb.cell_ rfl
    have e2 : w1.cell? ⟨w.heap.size, 2, none⟩ = some (.int .i64 x) := hb.cell_ rfl
    clear hm hb
    go_wp2_with fail
    refine (c1.out _ (hc.out.mod0 hm1.out) (Nat.le_trans hB hm1.out.size)).mono ?_
    rintro e w2 ⟨rfl, hch, hm2⟩
    dsimp only
    replace hch := Lib.hid hch
    replace hm2 := Lib.hid hm2
    go_wp2_with fail
    go_ret
    exact ⟨rfl, hch.out, (hm1.out.any _).trans hm2.out⟩
  · rw [if_neg (by omega), if_neg (by omega), if_pos rfl]
    generalize turnR C s x (asideA x) = r at *
    go_enter Try.func20, Try.ntmps20
    go_wp2_with fail
    refine (ck.out _).mono ?_
    rintro e w1 ⟨rfl, hm⟩
    dsimp only
    have hm1 := Lib.hid (((Mod.refl none_ w).alloc (.cells #[.int .i64 k, .string (txt s), .int .i64 x] 28)).then hm (fun _ _ h => h))
    have hb := (Blk.new w 28 #[.int .i64 k, .string (txt s), .int .i64 x]).mod hm (fun h => h)
    have e1 : w1.cell? ⟨w.heap.size, 1, none⟩ = some (.string (txt s)) := hb.cell_ rfl
    have e2 : w1.cell? ⟨w.heap.size, 2, none⟩ = some (.int .i64 x) := hb.cell_ rfl
    clear hm hb
    go_wp2_with fail
    refine (c2.out _ (hc.out.mod0 hm1.out) (Nat.le_trans hB hm1.out.size)).mono ?_
    rintro e w2 ⟨rfl, hch, hm2⟩
    dsimp only
    replace hch := Lib.hid hch
    replace hm2 := Lib.hid hm2
    go_wp2_with fail
    go_ret
    exact ⟨rfl, hch.out, (hm1.out.any _).trans hm2.out⟩
  · rw [if_neg (by omega), if_neg (by omega), if_neg (by omega)]
    have hv : ∃ a er, getV C s = (acV a, er) := by
      unfold getV
      cases getC C s with
      | none => exact ⟨⟨[], 0, 0, 0⟩, 6, rfl⟩
      | some a => exact ⟨a, 0, rfl⟩
    obtain ⟨a, er, hv⟩ := hv
    rw [hv] at c3 ⊢
    unfold acV at c3
    go_enter Try.func20, Try.ntmps20
    go_wp2_with fail
    refine (ck.out _).mono ?_
    rintro e w1 ⟨rfl, hm⟩
    dsimp only
    have hm1 := Lib.hid (((Mod.refl none_ w).alloc (.cells #[.int .i64 k, .string (txt s), .int .i64 x] 28)).then hm (fun _ _ h => h))
    have hb := (Blk.new w 28 #[.int .i64 k, .string (txt s), .int .i64 x]).mod hm (fun h => h)
    have e1 : w1.cell? ⟨w.heap.size, 1, none⟩ = some (.string (txt s)) := hb.cell_ rfl
    have e2 : w1.cell? ⟨w.heap.size, 2, none⟩ = some (.int .i64 x) := hb.cell_ rfl
    clear hm hb
    go_wp2_with fail
    refine (c3.out _ (hc.out.mod0 hm1.out)).mono ?_
    rintro e w2 ⟨rfl, hm2⟩
    dsimp only
    replace hm2 := Lib.hid hm2
    go_wp2_with fail
    go_ret
    exact ⟨rfl, ((hc.out.mod0 hm1.out).mod0 hm2.out).mod0 ((Mod.refl none_ _).alloc _), ((hm1.out.then hm2.out (fun _ _ h => h)).alloc _).any _⟩
end Go.Proofs.Ytgljnlafjolfpaa
