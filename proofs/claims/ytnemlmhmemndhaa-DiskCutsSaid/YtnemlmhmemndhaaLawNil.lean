/-
  DiskNil: a disk that isn't there is broken: for every step the law returns true, and the step reads as it did. No condition.
-/
import Derived.Test.YtnemlmhmemndhaaLives
namespace Go.Proofs.Ytnemlmhmemndhaa
set_option linter.unusedVariables false
open Go.RowKit

theorem does_nil0 (w : World) (B T Y : SV) (o : OpM) (hk : kd o.k = 0) : Calls Try.prog 13 #[.pointer none, .agg (opCells o B T Y)] w fun e w' =>
    e = .returned (.int .i64 14) ∧ Mod none_ w w' := by
  have Hk := Lib.hid hk
  clear hk
  unfold opCells
  go_enter Try.func13, Try.ntmps13
  go_wp2_with (first
    | (go_at_call 10; refine (op_kind o B T Y 0 Hk.out _).mono ?_; rintro e w1 ⟨rfl, hm1⟩; have b1 := box_at hm1; have b2 : w1.cell? ⟨w.heap.size, 2, none⟩ = some (.slice B.a B.n B.c) := b1.cell_ rfl; have Hm1 := Lib.hid hm1; clear b1 hm1)
    | (go_at_call 19; refine (disk_append_nil _ _).mono ?_; rintro e w2 ⟨rfl, rfl⟩))
  go_ret
  exact ⟨rfl, (((Mod.refl none_ w).alloc _).then Hm1.out (fun _ _ hf => hf))⟩
theorem does_nil1 (w : World) (B T Y : SV) (o : OpM) (hk : kd o.k = 1) : Calls Try.prog 13 #[.pointer none, .agg (opCells o B T Y)] w fun e w' =>
    e = .returned (.int .i64 14) ∧ Mod none_ w w' := by
  have Hk := Lib.hid hk
  clear hk
  unfold opCells
  go_enter Try.func13, Try.ntmps13
  go_wp2_with (first
    | (go_at_call 10; refine (op_kind o B T Y 1 Hk.out _).mono ?_; rintro e w1 ⟨rfl, hm1⟩; have b1 := box_at hm1; have Hm1 := Lib.hid hm1; clear b1 hm1)
    | (go_at_call 20; refine (disk_sync_nil _).mono ?_; rintro e w2 ⟨rfl, rfl⟩))
  go_ret
  exact ⟨rfl, (((Mod.refl none_ w).alloc _).then Hm1.out (fun _ _ hf => hf))⟩
theorem does_nil2 (w : World) (B T Y : SV) (o : OpM) (hk : kd o.k = 2) : Calls Try.prog 13 #[.pointer none, .agg (opCells o B T Y)] w fun e w' =>
    e = .returned (.int .i64 14) ∧ Mod none_ w w' := by
  have Hk := Lib.hid hk
  clear hk
  unfold opCells
  go_enter Try.func13, Try.ntmps13
  go_wp2_with (first
    | (go_at_call 10; refine (op_kind o B T Y 2 Hk.out _).mono ?_; rintro e w1 ⟨rfl, hm1⟩; have b1 := box_at hm1; have b2 : w1.cell? ⟨w.heap.size, 1, none⟩ = some (.int .i64 o.n) := b1.cell_ rfl; have Hm1 := Lib.hid hm1; clear b1 hm1)
    | (go_at_call 18; refine (disk_cut_nil _ _).mono ?_; rintro e w2 ⟨rfl, rfl⟩))
  go_ret
  exact ⟨rfl, (((Mod.refl none_ w).alloc _).then Hm1.out (fun _ _ hf => hf))⟩
theorem does_nil3 (w : World) (B T Y : SV) (o : OpM) (hk : kd o.k = 3) : Calls Try.prog 13 #[.pointer none, .agg (opCells o B T Y)] w fun e w' =>
    e = .returned (.int .i64 0) ∧ Mod none_ w w' := by
  have Hk := Lib.hid hk
  clear hk
  unfold opCells
  go_enter Try.func13, Try.ntmps13
  go_wp2_with (first
    | (go_at_call 10; refine (op_kind o B T Y 3 Hk.out _).mono ?_; rintro e w1 ⟨rfl, hm1⟩; have b1 := box_at hm1; have Hm1 := Lib.hid hm1; clear b1 hm1)
    | (go_at_call 14; refine (disk_break_nil _).mono ?_; rintro e w2 ⟨rfl, rfl⟩))
  go_ret
  exact ⟨rfl, (((Mod.refl none_ w).alloc _).then Hm1.out (fun _ _ hf => hf))⟩
theorem does_nil4 (w : World) (Bd : Nat) (B T Y : SV) (o : OpM) (ho : OpAt w Bd B T Y o) (hk : kd o.k = 4) : Calls Try.prog 13 #[.pointer none, .agg (opCells o B T Y)] w fun e w' =>
    e = .returned (.int .i64 0) ∧ Mod none_ w w' := by
  have Hk := Lib.hid hk
  have ho := Lib.hid ho
  clear hk
  unfold opCells
  go_enter Try.func13, Try.ntmps13
  go_upto_region 11 with ((go_at_call 10; refine (op_kind o B T Y 4 Hk.out _).mono ?_; rintro e w1 ⟨rfl, hm1⟩; have b1 := box_at hm1; have b0 : Blk w1 w.heap.size 30 #[.int .i64 o.k, .int .i64 o.n, .slice B.a B.n B.c, .slice T.a T.n T.c, .slice Y.a Y.n Y.c] := b1; have b2 : w1.cell? ⟨w.heap.size, 1, none⟩ = some (.int .i64 o.n) := b1.cell_ rfl; have ho1 := Lib.hid (ho.out.mod0 (((Mod.refl none_ w).alloc _).then hm1 (fun _ _ hf => hf))); have hl := b1.lt; have Hm1 := Lib.hid hm1; clear b1 hm1))
  have hc0 : w1.cell? ⟨w.heap.size, 0, none⟩ = some (.int .i64 o.k) := b0.cell_ rfl
  have hc2 : w1.cell? ⟨w.heap.size, 2, none⟩ = some (.slice B.a B.n B.c) := b0.cell_ rfl
  have hc3 : w1.cell? ⟨w.heap.size, 3, none⟩ = some (.slice T.a T.n T.c) := b0.cell_ rfl
  have hc4 : w1.cell? ⟨w.heap.size, 4, none⟩ = some (.slice Y.a Y.n Y.c) := b0.cell_ rfl
  clear b0
  go_region_with (first
    | (go_at_call 22; refine (op_spoils o B T Y Bd _ (ho1.out.mod0 ((Mod.refl _ w1).drew))).mono ?_; rintro e w2 ⟨v, rfl, A2, c2, rfl, hown, hA2, hm2, hj2⟩; have Hm2 := Lib.hid hm2; have c1' : w2.cell? ⟨w.heap.size, 1, none⟩ = some (.int .i64 o.n) := hm2.cell_some (w := w1.drew) b2 (fun hf => hf); clear hown hA2 hm2 hj2)
    | (go_at_call 15; refine (disk_up_nil _ _ _).mono ?_; rintro e w3 ⟨rfl, rfl⟩))
  all_goals
    go_wp2
    go_ret
    exact ⟨rfl, ((((Mod.refl none_ w).alloc _).then Hm1.out (fun _ _ hf => hf))).drew.trans Hm2.out⟩
theorem does_nil (w : World) (Bd : Nat) (B T Y : SV) (o : OpM) (ho : OpAt w Bd B T Y o) : Calls Try.prog 13 #[.pointer none, .agg (opCells o B T Y)] w fun e w' =>
    e = .returned (.int .i64 (if kd o.k < 3 then 14 else 0)) ∧ Mod none_ w w' := by
  have hl := kd_lt o.k
  by_cases h0 : kd o.k = 0
  · rw [h0]; exact does_nil0 w B T Y o h0
  · by_cases h1 : kd o.k = 1
    · rw [h1]; exact does_nil1 w B T Y o h1
    · by_cases h2 : kd o.k = 2
      · rw [h2]; exact does_nil2 w B T Y o h2
      · rw [if_neg (by omega)]
        by_cases h3 : kd o.k = 3
        · exact does_nil3 w B T Y o h3
        · exact does_nil4 w Bd B T Y o ho (by omega)

set_option maxHeartbeats 1000000 in
theorem nil_walk (w : World) (Bd : Nat) (B T Y : SV) (o : OpM) (ho : OpAt w Bd B T Y o) : Calls Try.prog 5 #[.agg (opCells o B T Y)] w fun e w' =>
    e = .returned (.bool true) ∧ Below w.heap.size w w' := by
  have ho := Lib.hid ho
  have hl := kd_lt o.k
  by_cases hk : kd o.k < 3
  · have Hk := Lib.hid hk
    clear hk hl
    unfold opCells
    go_enter Try.func5, Try.ntmps5
    go_wp2_with (first
      | (go_at_call 7; refine (lives_ok _).mono ?_; rintro e w1 ⟨rfl, hm1⟩; have Hm1 := Lib.hid hm1; have b1 := box_at hm1; have b0 : Blk w1 w.heap.size 30 #[.int .i64 o.k, .int .i64 o.n, .slice B.a B.n B.c, .slice T.a T.n T.c, .slice Y.a Y.n Y.c] := b1; have hc0 : w1.cell? ⟨w.heap.size, 0, none⟩ = some (.int .i64 o.k) := b0.cell_ rfl; have hc1 : w1.cell? ⟨w.heap.size, 1, none⟩ = some (.int .i64 o.n) := b0.cell_ rfl; have hc2 : w1.cell? ⟨w.heap.size, 2, none⟩ = some (.slice B.a B.n B.c) := b0.cell_ rfl; have hc3 : w1.cell? ⟨w.heap.size, 3, none⟩ = some (.slice T.a T.n T.c) := b0.cell_ rfl; have hc4 : w1.cell? ⟨w.heap.size, 4, none⟩ = some (.slice Y.a Y.n Y.c) := b0.cell_ rfl; have ho1 := Lib.hid (ho.out.mod0 (((Mod.refl none_ w).alloc _).then hm1 (fun _ _ hf => hf))); clear hm1 b1 b0)
      | (go_at_call 13; refine (does_nil _ Bd B T Y o ho1.out).mono ?_; rintro e w2 ⟨rfl, hm2⟩; rw [if_pos Hk.out]; have Hm2 := Lib.hid hm2; clear hm2)
      | (go_at_call 11; refine (disk_bytes_nil _).mono ?_; rintro e w3 ⟨rfl, rfl⟩)
      | (go_at_call 12; refine (disk_sure_nil _).mono ?_; rintro e w3 ⟨rfl, rfl⟩)
      | (go_at_call 17; refine (disk_room_nil _).mono ?_; rintro e w3 ⟨rfl, rfl⟩)
      | (go_at_call 16; refine (disk_broken_nil _).mono ?_; rintro e w3 ⟨rfl, rfl⟩))
    go_ret
    exact ⟨rfl, ((((Mod.refl none_ w).alloc _).then Hm1.out (fun _ _ hf => hf)).trans Hm2.out).below0⟩
  · have Hk := Lib.hid hk
    have hk2 : 2 < kd o.k := by omega
    clear hk
    unfold opCells
    go_enter Try.func5, Try.ntmps5
    go_wp2_with (first
      | (go_at_call 7; refine (lives_ok _).mono ?_; rintro e w1 ⟨rfl, hm1⟩; have Hm1 := Lib.hid hm1; have b1 := box_at hm1; have b0 : Blk w1 w.heap.size 30 #[.int .i64 o.k, .int .i64 o.n, .slice B.a B.n B.c, .slice T.a T.n T.c, .slice Y.a Y.n Y.c] := b1; have hc0 : w1.cell? ⟨w.heap.size, 0, none⟩ = some (.int .i64 o.k) := b0.cell_ rfl; have hc1 : w1.cell? ⟨w.heap.size, 1, none⟩ = some (.int .i64 o.n) := b0.cell_ rfl; have hc2 : w1.cell? ⟨w.heap.size, 2, none⟩ = some (.slice B.a B.n B.c) := b0.cell_ rfl; have hc3 : w1.cell? ⟨w.heap.size, 3, none⟩ = some (.slice T.a T.n T.c) := b0.cell_ rfl; have hc4 : w1.cell? ⟨w.heap.size, 4, none⟩ = some (.slice Y.a Y.n Y.c) := b0.cell_ rfl; have ho1 := Lib.hid (ho.out.mod0 (((Mod.refl none_ w).alloc _).then hm1 (fun _ _ hf => hf))); clear hm1 b1 b0)
      | (go_at_call 13; refine (does_nil _ Bd B T Y o ho1.out).mono ?_; rintro e w2 ⟨rfl, hm2⟩; rw [if_neg (by have := Hk.out; omega)]; have hd0 := hm2.cell_some hc0 (fun hf => hf); have hd1 := hm2.cell_some hc1 (fun hf => hf); have hd2 := hm2.cell_some hc2 (fun hf => hf); have hd3 := hm2.cell_some hc3 (fun hf => hf); have hd4 := hm2.cell_some hc4 (fun hf => hf); have Hm2 := Lib.hid hm2; clear hm2)
      | (go_at_call 10; refine (op_kind o B T Y _ rfl _).mono ?_; rintro e w3 ⟨rfl, hm3⟩; have Hm3 := Lib.hid hm3; clear hm3)
      | (go_at_call 11; refine (disk_bytes_nil _).mono ?_; rintro e w3 ⟨rfl, rfl⟩)
      | (go_at_call 12; refine (disk_sure_nil _).mono ?_; rintro e w3 ⟨rfl, rfl⟩)
      | (go_at_call 17; refine (disk_room_nil _).mono ?_; rintro e w3 ⟨rfl, rfl⟩)
      | (go_at_call 16; refine (disk_broken_nil _).mono ?_; rintro e w3 ⟨rfl, rfl⟩))
    go_ret
    exact ⟨rfl, (((((Mod.refl none_ w).alloc _).then Hm1.out (fun _ _ hf => hf)).trans Hm2.out).trans Hm3.out).below0⟩
end Go.Proofs.Ytnemlmhmemndhaa
