/-
  The reference of chapter 1: Total. No condition.
-/
import Derived.Test.YtaohgefpnndjcaaRefCoin
namespace Go.Proofs.Ytaohgefpnndjcaa
set_option linter.unusedVariables false
open Go.RowKit
theorem isum_bd : ∀ (l : List Int), I64s l → -(9223372036854775808 * (l.length : Int)) ≤ isum l ∧ isum l ≤ 9223372036854775808 * (l.length : Int) := by
  intro l
  induction l with
  | nil => intro _; simp [isum_nil]
  | cons x l ih =>
    intro h
    have h1 := h x (by simp)
    have h2 := ih (fun y hy => h y (by simp [hy]))
    rw [isum_cons]
    unfold I64 at h1
    simp only [List.length_cons, Int.natCast_add, Int.natCast_one]
    omega
def RtRel (w : World) (g : Nat) (s : Int) (wr : World) : Prop := ∃ (h : Int) (l : Nat), s = h * 18446744073709551616 + (l : Int) ∧ l < 18446744073709551616 ∧ Blk wr g 85 #[.int .i64 h, .int .u64 (l : Int)] ∧ Mod none_ w wr ∧ w.heap.size ≤ g
set_option maxRecDepth 100000 in
set_option maxHeartbeats 2000000 in
theorem rtotal_ok (w : World) (A : Option Addr) (n c : Nat) (xs : List Int) (h : RdI w A n xs) (hn : n ≤ 1000000000000) (hin : I64s xs) : Calls Try.prog 37 #[.slice A n c] w (SPost (isum xs) w) := by
  have hl := h.len
  have hb0 := isum_bd xs hin
  rw [hl] at hb0
  have hs := fun W => sum_ok W (isum xs) (by omega) (by omega)
  replace h := Lib.hid h
  replace hl := Lib.hid hl
  replace hin := Lib.hid hin
  replace hs := Lib.hid hs
  replace hb0 := Lib.hid hb0
  go_enter Try.func37, Try.ntmps37
  go_wp2_with fail
  go_loopw [5] (fun x wr => ∃ j : Nat, x = .int .i64 j ∧ j ≤ n ∧ RtRel w w.heap.size (isum (xs.take j)) wr) (fun x _ => n - (intOf x).toNat)
  case atStart => exact ⟨0, rfl, by omega, 0, 0, by simp [isum_nil], by omega, Blk.new _ _ _, (Mod.refl none_ w).alloc _, Nat.le_refl _⟩
  case round =>
    obtain ⟨j, rfl, hj, hh, ll, hsum, hll, hb, hm, hg⟩ := hrel
    by_cases hlt : j < n
    · obtain ⟨b, o, e, hc⟩ := Rd.form (Rd.mod0 h.out hm) (show 0 < n by omega) (by omega)
      subst e
      have hjl : j < xs.length := by rw [hl.out]; exact hlt
      have hcell := hc j _ (ivs_get hjl)
      clear hc
      have hx := hin.out xs[j] (List.getElem_mem hjl)
      have hnx : isum (xs.take (j + 1)) = isum (xs.take j) + xs[j] := by rw [List.take_succ_eq_append_getElem hjl, isum_append, isum_cons, isum_nil]; omega
      have hbd := isum_bd (xs.take j) (fun y hy => hin.out y (List.mem_of_mem_take hy))
      rw [List.length_take, hl.out, Nat.min_eq_left hj] at hbd
      generalize xs[j] = x at hcell hx hnx
      have hxx := hx
      unfold I64 at hxx
      have hof := fun W => of_ok W x hx
      have hpl : ∀ W, Calls Try.prog 58 #[wd (isum (xs.take j)), wd x] W (WPost (isum (xs.take (j + 1))) W) := fun W => by rw [hnx]; exact plus_ok W _ x (by omega) (by omega)
      rw [wd_eq hsum hll] at hpl
      have c0 := hb.cell 0
      have c1 := hb.cell 1
      obtain ⟨h2, l2, e2, e3, e4⟩ : ∃ (h2 : Int) (l2 : Nat), isum (xs.take (j + 1)) = h2 * 18446744073709551616 + (l2 : Int) ∧ l2 < 18446744073709551616 ∧ wd (isum (xs.take (j + 1))) = .agg #[.int .i64 h2, .int .u64 (l2 : Int)] := by
        refine ⟨isum (xs.take (j + 1)) / 18446744073709551616, (isum (xs.take (j + 1)) % 18446744073709551616).toNat, by omega, by omega, ?_⟩
        exact wd_eq (by omega) (by omega)
      have hgl := hb.lt
      have hcl := World.block_lt_of_cell? wr _ hcell
      clear hxx hx hbd
      replace hsum := Lib.hid hsum
      replace hll := Lib.hid hll
      replace hb := Lib.hid hb
      replace hm := Lib.hid hm
      replace hg := Lib.hid hg
      replace hof := Lib.hid hof
      replace hpl := Lib.hid hpl
      replace hnx := Lib.hid hnx
      replace e2 := Lib.hid e2
      replace e3 := Lib.hid e3
      replace e4 := Lib.hid e4
      go_wp2_with fail
      go_region_with (first
        | (go_at_call 59; (with_reducible refine (hof.out _).mono ?_); rintro e w1 ⟨rfl, hm1⟩; have hb1 := Blk.mod (hb.out.drew) hm1 (fun hh => hh); have c0' := hb1.cell 0; have c1' := hb1.cell 1; have z1 := hm1.size; have hmm1 := (hm.out.drew).trans hm1; clear hm1; replace hb1 := Lib.hid hb1; replace hmm1 := Lib.hid hmm1)
        | (go_at_call 58; (with_reducible refine (hpl.out _).mono ?_); rintro e w2 ⟨rfl, hm2⟩; rw [e4.out]; have hb2 := Blk.mod hb1.out hm2 (fun hh => hh); have c0'' := hb2.cell 0; have c1'' := hb2.cell 1; have f0 := hb2.frozen 0; have f1 := hb2.frozen 1; have hmm2 := hmm1.out.trans hm2; clear hm2; replace hb2 := Lib.hid hb2; replace hmm2 := Lib.hid hmm2))
      all_goals
        have hlast : Hid (RtRel w w.heap.size (isum (xs.take (j + 1))) ((w2.setCell ⟨w.heap.size, 0, none⟩ (.int .i64 h2)).setCell ⟨w.heap.size, 1, none⟩ (.int .u64 (l2 : Int)))) :=
          Lib.hid ⟨h2, l2, e2.out, e3.out, (hb2.out.set_ 0 _).set_ 1 _, (hmm2.out.setCell (.inr (Nat.le_refl _)) _).setCell (.inr (Nat.le_refl _)) _, Nat.le_refl _⟩
        go_wp2_with fail
        go_roundw
        case rel => exact ⟨j + 1, by go_num, by omega, hlast.out⟩
        case measure => simp [intOf]; omega
    · have hall : xs.take j = xs := List.take_of_length_le (by have := hl.out; omega)
      rw [hall] at hsum
      have hsm := hs.out wr
      rw [wd_eq hsum hll] at hsm
      have c0 := hb.cell 0
      have c1 := hb.cell 1
      clear hall
      replace hsum := Lib.hid hsum
      replace hb := Lib.hid hb
      replace hm := Lib.hid hm
      replace hsm := Lib.hid hsm
      replace hg := Lib.hid hg
      go_wp2_with fail
      refine hsm.out.mono ?_
      rintro e w1 ⟨rfl, hm1⟩
      dsimp only
      replace hm1 := Lib.hid hm1
      go_wp2_with fail
      go_ret2
      exact ⟨rfl, hm.out.trans hm1.out⟩
end Go.Proofs.Ytaohgefpnndjcaa
