/-
  The contract of 'does': a step of a script. No condition.
-/
import Derived.Test.YtnemlmhmemndhaaDoes
namespace Go.Proofs.Ytnemlmhmemndhaa
set_option linter.unusedVariables false
open Go.RowKit

/-- What a step leaves, and what it returns. -/
def DS.step (D : DS) (o : OpM) : DS :=
  if kd o.k = 0 then (if D.broken = true ∨ D.room < D.bytes.length + o.b.length then D else { D with bytes := D.bytes ++ o.b })
  else if kd o.k = 1 then (if D.broken = true then D else { D with sure := D.bytes.length })
  else if kd o.k = 2 then (if D.broken = true ∨ o.n < 0 ∨ (D.bytes.length : Int) < o.n then D else { D with bytes := D.bytes.take o.n.toNat, sure := o.n.toNat })
  else if kd o.k = 3 then { D with broken := true }
  else ⟨(spoils_ D.sure (upKeep D.bytes D.sure o.n) D.bytes o.sp).take (D.sure + upKeep D.bytes D.sure o.n), D.sure + upKeep D.bytes D.sure o.n, D.room, false⟩
def DS.err (D : DS) (o : OpM) : Int :=
  if kd o.k = 0 then (if D.broken = true then 14 else if D.room < D.bytes.length + o.b.length then 5 else 0)
  else if kd o.k = 1 then (if D.broken = true then 14 else 0)
  else if kd o.k = 2 then (if D.broken = true then 14 else if o.n < 0 ∨ (D.bytes.length : Int) < o.n then 13 else 0)
  else 0

/-- What a call that changes a disk leaves. -/
def DPost (w : World) (p : Nat) (A : Option Addr) (D' : DS) (w' : World) : Prop :=
  ∃ A', (∃ c', Dk w' p A' c' D') ∧ Nw w A A' ∧ Mod (dkf p A) w w'

theorem DPost.same {w w' : World} {p : Nat} {A : Option Addr} {c : Nat} {D : DS} (h : Dk w p A c D) (hm : Mod none_ w w') : DPost w p A D w' :=
  ⟨A, ⟨c, h.mod0 hm⟩, .inl rfl, hm.any _⟩
theorem DPost.later {w w1 w' : World} {p : Nat} {A : Option Addr} {D : DS} (hm : Mod none_ w w1) (h : DPost w1 p A D w') : DPost w p A D w' := by
  obtain ⟨A', hd, hn, hm'⟩ := h
  refine ⟨A', hd, ?_, (hm.any (dkf p A)).trans hm'⟩
  rcases hn with rfl | hn
  · exact .inl rfl
  · exact .inr fun a ha => Nat.le_trans hm.size (hn a ha)

section
variable (p : Nat) (A : Option Addr) (c : Nat) (l : List UInt8) (s r : Nat) (br : Bool) (w : World) (Bd : Nat) (B T Y : SV) (o : OpM)

/-- The box of the step behind a call. -/
theorem box_at {w w1 : World} {T : TypeId} {cs : Array Value} (hm : Mod none_ (w.alloc (.cells cs T)) w1) : Blk w1 w.heap.size T cs := (Blk.new w T cs).mod hm fun h => h

theorem does_append (h : Dk w p A c ⟨l, s, r, br⟩) (ho : OpAt w Bd B T Y o) (hk : kd o.k = 0) : Calls Try.prog 13 #[.pointer (some ⟨p, 0, none⟩), .agg (opCells o B T Y)] w fun e w' =>
    e = .returned (.int .i64 (DS.err ⟨l, s, r, br⟩ o)) ∧ DPost w p A (DS.step ⟨l, s, r, br⟩ o) w' := by
  have ho := Lib.hid ho
  have h := Lib.hid h
  have hs : DS.step ⟨l, s, r, br⟩ o = if br = true ∨ r < l.length + o.b.length then ⟨l, s, r, br⟩ else ⟨l ++ o.b, s, r, br⟩ := by simp [DS.step, hk]
  have he : DS.err ⟨l, s, r, br⟩ o = if br = true then 14 else if r < l.length + o.b.length then 5 else 0 := by simp [DS.err, hk]
  rw [hs, he]
  have Hk := Lib.hid hk
  clear hs he hk
  have hbl := ho.out.b.len
  cases br
  · simp only [Bool.false_eq_true, if_false, false_or]
    rw [hbl]
    by_cases hr : r < l.length + B.n
    · simp only [hr, if_true]
      clear hbl
      unfold opCells
      go_enter Try.func13, Try.ntmps13
      go_wp2_with (first
        | (go_at_call 10; refine (op_kind o B T Y 0 Hk.out _).mono ?_; rintro e w1 ⟨rfl, hm1⟩; have b1 := box_at hm1; have b2 : w1.cell? ⟨w.heap.size, 2, none⟩ = some (.slice B.a B.n B.c) := b1.cell_ rfl; have h1 := Lib.hid (h.out.mod0 (((Mod.refl none_ w).alloc _).then hm1 (fun _ _ hf => hf))); have Hm1 := Lib.hid hm1; clear b1 hm1)
        | (go_at_call 19; refine (disk_append_full p A c l s r _ h1.out B.a B.n B.c hr).mono ?_; rintro e w2 ⟨rfl, k, rfl⟩))
      go_ret
      exact ⟨rfl, DPost.same h.out ((((Mod.refl none_ w).alloc _).then Hm1.out (fun _ _ hf => hf)).drewN _)⟩
    · simp only [hr, if_false]
      clear hbl
      have hr' : l.length + B.n ≤ r := by omega
      unfold opCells
      go_enter Try.func13, Try.ntmps13
      go_wp2_with (first
        | (go_at_call 10; refine (op_kind o B T Y 0 Hk.out _).mono ?_; rintro e w1 ⟨rfl, hm1⟩; have b1 := box_at hm1; have b2 : w1.cell? ⟨w.heap.size, 2, none⟩ = some (.slice B.a B.n B.c) := b1.cell_ rfl; have h1 := Lib.hid (h.out.mod0 (((Mod.refl none_ w).alloc _).then hm1 (fun _ _ hf => hf))); have ho1 := Lib.hid (ho.out.mod0 (((Mod.refl none_ w).alloc _).then hm1 (fun _ _ hf => hf))); have Hm1 := Lib.hid hm1; clear b1 hm1)
        | (go_at_call 19; refine (disk_append p A c l s r _ h1.out B.a B.n B.c o.b ho1.out.b hr').mono ?_; rintro e w2 ⟨rfl, hpost⟩; have Hpost := Lib.hid hpost; clear hpost))
      go_ret
      exact ⟨rfl, DPost.later (((Mod.refl none_ w).alloc _).then Hm1.out (fun _ _ hf => hf)) Hpost.out⟩
  · simp only [if_true, true_or]
    clear hbl
    unfold opCells
    go_enter Try.func13, Try.ntmps13
    go_wp2_with (first
      | (go_at_call 10; refine (op_kind o B T Y 0 Hk.out _).mono ?_; rintro e w1 ⟨rfl, hm1⟩; have b1 := box_at hm1; have b2 : w1.cell? ⟨w.heap.size, 2, none⟩ = some (.slice B.a B.n B.c) := b1.cell_ rfl; have h1 := Lib.hid (h.out.mod0 (((Mod.refl none_ w).alloc _).then hm1 (fun _ _ hf => hf))); have Hm1 := Lib.hid hm1; clear b1 hm1)
      | (go_at_call 19; refine (disk_append_down p A c l s r _ _ h1.out).mono ?_; rintro e w2 ⟨rfl, rfl⟩))
    go_ret
    exact ⟨rfl, DPost.same h.out (((Mod.refl none_ w).alloc _).then Hm1.out (fun _ _ hf => hf))⟩

theorem does_sync (h : Dk w p A c ⟨l, s, r, br⟩) (hk : kd o.k = 1) : Calls Try.prog 13 #[.pointer (some ⟨p, 0, none⟩), .agg (opCells o B T Y)] w fun e w' =>
    e = .returned (.int .i64 (DS.err ⟨l, s, r, br⟩ o)) ∧ DPost w p A (DS.step ⟨l, s, r, br⟩ o) w' := by
  have h := Lib.hid h
  have hs : DS.step ⟨l, s, r, br⟩ o = if br = true then ⟨l, s, r, br⟩ else ⟨l, l.length, r, br⟩ := by simp [DS.step, hk]
  have he : DS.err ⟨l, s, r, br⟩ o = if br = true then 14 else 0 := by simp [DS.err, hk]
  rw [hs, he]
  have Hk := Lib.hid hk
  clear hs he hk
  cases br
  · simp only [Bool.false_eq_true, if_false]
    unfold opCells
    go_enter Try.func13, Try.ntmps13
    go_wp2_with (first
      | (go_at_call 10; refine (op_kind o B T Y 1 Hk.out _).mono ?_; rintro e w1 ⟨rfl, hm1⟩; have b1 := box_at hm1; have h1 := Lib.hid (h.out.mod0 (((Mod.refl none_ w).alloc _).then hm1 (fun _ _ hf => hf))); have Hm1 := Lib.hid hm1; clear b1 hm1)
      | (go_at_call 20; refine (disk_sync p A c l s r _ h1.out).mono ?_; rintro e w2 ⟨rfl, hd, hm⟩; have Hd := Lib.hid hd; have Hm := Lib.hid hm; clear hd hm))
    go_ret
    exact ⟨rfl, DPost.later (((Mod.refl none_ w).alloc _).then Hm1.out (fun _ _ hf => hf)) ⟨A, ⟨c, Hd.out⟩, .inl rfl, Hm.out⟩⟩
  · simp only [if_true]
    unfold opCells
    go_enter Try.func13, Try.ntmps13
    go_wp2_with (first
      | (go_at_call 10; refine (op_kind o B T Y 1 Hk.out _).mono ?_; rintro e w1 ⟨rfl, hm1⟩; have b1 := box_at hm1; have h1 := Lib.hid (h.out.mod0 (((Mod.refl none_ w).alloc _).then hm1 (fun _ _ hf => hf))); have Hm1 := Lib.hid hm1; clear b1 hm1)
      | (go_at_call 20; refine (disk_sync_down p A c l s r _ h1.out).mono ?_; rintro e w2 ⟨rfl, rfl⟩))
    go_ret
    exact ⟨rfl, DPost.same h.out (((Mod.refl none_ w).alloc _).then Hm1.out (fun _ _ hf => hf))⟩

theorem does_cut (h : Dk w p A c ⟨l, s, r, br⟩) (hk : kd o.k = 2) : Calls Try.prog 13 #[.pointer (some ⟨p, 0, none⟩), .agg (opCells o B T Y)] w fun e w' =>
    e = .returned (.int .i64 (DS.err ⟨l, s, r, br⟩ o)) ∧ DPost w p A (DS.step ⟨l, s, r, br⟩ o) w' := by
  have h := Lib.hid h
  have hs : DS.step ⟨l, s, r, br⟩ o = if br = true ∨ o.n < 0 ∨ (l.length : Int) < o.n then ⟨l, s, r, br⟩ else ⟨l.take o.n.toNat, o.n.toNat, r, br⟩ := by simp [DS.step, hk]
  have he : DS.err ⟨l, s, r, br⟩ o = if br = true then 14 else if o.n < 0 ∨ (l.length : Int) < o.n then 13 else 0 := by simp [DS.err, hk]
  rw [hs, he]
  have Hk := Lib.hid hk
  clear hs he hk
  cases br
  · simp only [Bool.false_eq_true, if_false, false_or]
    by_cases hn : o.n < 0 ∨ (l.length : Int) < o.n
    · simp only [hn, if_true]
      have Hn := Lib.hid hn
      clear hn
      unfold opCells
      go_enter Try.func13, Try.ntmps13
      go_wp2_with (first
        | (go_at_call 10; refine (op_kind o B T Y 2 Hk.out _).mono ?_; rintro e w1 ⟨rfl, hm1⟩; have b1 := box_at hm1; have b2 : w1.cell? ⟨w.heap.size, 1, none⟩ = some (.int .i64 o.n) := b1.cell_ rfl; have h1 := Lib.hid (h.out.mod0 (((Mod.refl none_ w).alloc _).then hm1 (fun _ _ hf => hf))); have Hm1 := Lib.hid hm1; clear b1 hm1)
        | (go_at_call 18; refine (disk_cut_out p A c l s r _ _ h1.out Hn.out).mono ?_; rintro e w2 ⟨rfl, rfl⟩))
      go_ret
      exact ⟨rfl, DPost.same h.out (((Mod.refl none_ w).alloc _).then Hm1.out (fun _ _ hf => hf))⟩
    · simp only [hn, if_false]
      obtain ⟨k, hkk⟩ := Int.eq_ofNat_of_zero_le (a := o.n) (by omega)
      have hkl : k ≤ l.length := by omega
      rw [hkk, Int.toNat_natCast]
      have Hkk := Lib.hid hkk
      clear hn hkk
      unfold opCells
      go_enter Try.func13, Try.ntmps13
      go_wp2_with (first
        | (go_at_call 10; refine (op_kind o B T Y 2 Hk.out _).mono ?_; rintro e w1 ⟨rfl, hm1⟩; have b1 := box_at hm1; have b2 : w1.cell? ⟨w.heap.size, 1, none⟩ = some (.int .i64 o.n) := b1.cell_ rfl; rw [Hkk.out] at b2; have h1 := Lib.hid (h.out.mod0 (((Mod.refl none_ w).alloc _).then hm1 (fun _ _ hf => hf))); have Hm1 := Lib.hid hm1; clear b1 hm1)
        | (go_at_call 18; refine (disk_cut p A c l s r _ k h1.out hkl).mono ?_; rintro e w2 ⟨rfl, hd, hm⟩; have Hd := Lib.hid hd; have Hm := Lib.hid hm; clear hd hm))
      go_ret
      exact ⟨rfl, DPost.later (((Mod.refl none_ w).alloc _).then Hm1.out (fun _ _ hf => hf)) ⟨A, ⟨k, Hd.out⟩, .inl rfl, Hm.out⟩⟩
  · simp only [if_true, true_or]
    unfold opCells
    go_enter Try.func13, Try.ntmps13
    go_wp2_with (first
      | (go_at_call 10; refine (op_kind o B T Y 2 Hk.out _).mono ?_; rintro e w1 ⟨rfl, hm1⟩; have b1 := box_at hm1; have b2 : w1.cell? ⟨w.heap.size, 1, none⟩ = some (.int .i64 o.n) := b1.cell_ rfl; have h1 := Lib.hid (h.out.mod0 (((Mod.refl none_ w).alloc _).then hm1 (fun _ _ hf => hf))); have Hm1 := Lib.hid hm1; clear b1 hm1)
      | (go_at_call 18; refine (disk_cut_down p A c l s r _ _ h1.out).mono ?_; rintro e w2 ⟨rfl, rfl⟩))
    go_ret
    exact ⟨rfl, DPost.same h.out (((Mod.refl none_ w).alloc _).then Hm1.out (fun _ _ hf => hf))⟩

theorem does_break (h : Dk w p A c ⟨l, s, r, br⟩) (hk : kd o.k = 3) : Calls Try.prog 13 #[.pointer (some ⟨p, 0, none⟩), .agg (opCells o B T Y)] w fun e w' =>
    e = .returned (.int .i64 (DS.err ⟨l, s, r, br⟩ o)) ∧ DPost w p A (DS.step ⟨l, s, r, br⟩ o) w' := by
  have h := Lib.hid h
  have hs : DS.step ⟨l, s, r, br⟩ o = ⟨l, s, r, true⟩ := by simp [DS.step, hk]
  have he : DS.err ⟨l, s, r, br⟩ o = 0 := by simp [DS.err, hk]
  rw [hs, he]
  have Hk := Lib.hid hk
  clear hs he hk
  unfold opCells
  go_enter Try.func13, Try.ntmps13
  go_wp2_with (first
    | (go_at_call 10; refine (op_kind o B T Y 3 Hk.out _).mono ?_; rintro e w1 ⟨rfl, hm1⟩; have b1 := box_at hm1; have h1 := Lib.hid (h.out.mod0 (((Mod.refl none_ w).alloc _).then hm1 (fun _ _ hf => hf))); have Hm1 := Lib.hid hm1; clear b1 hm1)
    | (go_at_call 14; refine (disk_break p A c _ _ h1.out).mono ?_; rintro e w2 ⟨rfl, hd, hm⟩; have Hd := Lib.hid hd; have Hm := Lib.hid hm; clear hd hm))
  go_ret
  exact ⟨rfl, DPost.later (((Mod.refl none_ w).alloc _).then Hm1.out (fun _ _ hf => hf)) ⟨A, ⟨c, Hd.out⟩, .inl rfl, Hm.out⟩⟩

theorem does_up (h : Dk w p A c ⟨l, s, r, br⟩) (ho : OpAt w Bd B T Y o) (hk : kd o.k = 4) : Calls Try.prog 13 #[.pointer (some ⟨p, 0, none⟩), .agg (opCells o B T Y)] w fun e w' =>
    e = .returned (.int .i64 (DS.err ⟨l, s, r, br⟩ o)) ∧ DPost w p A (DS.step ⟨l, s, r, br⟩ o) w' := by
  have h := Lib.hid h
  have ho := Lib.hid ho
  have hs : DS.step ⟨l, s, r, br⟩ o = ⟨(spoils_ s (upKeep l s o.n) l o.sp).take (s + upKeep l s o.n), s + upKeep l s o.n, r, false⟩ := by simp [DS.step, hk]
  have he : DS.err ⟨l, s, r, br⟩ o = 0 := by simp [DS.err, hk]
  rw [hs, he]
  have Hk := Lib.hid hk
  have hsl : o.sp.length ≤ 20 := by simp [OpM.sp]; omega
  clear hs he hk
  unfold opCells
  go_enter Try.func13, Try.ntmps13
  go_upto_region 11 with ((go_at_call 10; refine (op_kind o B T Y 4 Hk.out _).mono ?_; rintro e w1 ⟨rfl, hm1⟩; have b1 := box_at hm1; have b0 : Blk w1 w.heap.size 30 #[.int .i64 o.k, .int .i64 o.n, .slice B.a B.n B.c, .slice T.a T.n T.c, .slice Y.a Y.n Y.c] := b1; have b2 : w1.cell? ⟨w.heap.size, 1, none⟩ = some (.int .i64 o.n) := b1.cell_ rfl; have h1 := Lib.hid (h.out.mod0 (((Mod.refl none_ w).alloc _).then hm1 (fun _ _ hf => hf))); have ho1 := Lib.hid (ho.out.mod0 (((Mod.refl none_ w).alloc _).then hm1 (fun _ _ hf => hf))); have hl := b1.lt; have Hm1 := Lib.hid hm1; clear b1 hm1))
  have hc0 : w1.cell? ⟨w.heap.size, 0, none⟩ = some (.int .i64 o.k) := b0.cell_ rfl
  have hc2 : w1.cell? ⟨w.heap.size, 2, none⟩ = some (.slice B.a B.n B.c) := b0.cell_ rfl
  have hc3 : w1.cell? ⟨w.heap.size, 3, none⟩ = some (.slice T.a T.n T.c) := b0.cell_ rfl
  have hc4 : w1.cell? ⟨w.heap.size, 4, none⟩ = some (.slice Y.a Y.n Y.c) := b0.cell_ rfl
  clear b0
  go_region_with (first
    | (go_at_call 22; refine (op_spoils o B T Y Bd _ (ho1.out.mod0 ((Mod.refl _ w1).drew))).mono ?_; rintro e w2 ⟨v, rfl, A2, c2, rfl, hown, hA2, hm2, hj2⟩; have Hown := Lib.hid hown; have HA2 := Lib.hid hA2; have Hm2 := Lib.hid hm2; have c1' : w2.cell? ⟨w.heap.size, 1, none⟩ = some (.int .i64 o.n) := hm2.cell_some (w := w1.drew) b2 (fun hf => hf); clear hown hA2 hm2)
    | (go_at_call 15; refine (disk_up p A c l s r _ br (h1.out.mod0 (((Mod.refl _ w1).drew).then Hm2.out fun _ _ hf => hf)) o.n A2 o.sp.length c2 o.sp (by have := Hown.out.rd; rwa [List.take_of_length_le (Nat.le_refl _)] at this) (fun i hf hd => Nat.lt_irrefl _ (Nat.lt_trans (h1.out.lt i hd) (HA2.out i hf))) (by omega)).mono ?_; rintro e w3 ⟨rfl, hd, hm⟩; have Hd := Lib.hid hd; have Hm := Lib.hid hm; clear hd hm))
  all_goals
    go_wp2
    go_ret
    refine ⟨rfl, DPost.later ((((Mod.refl none_ w).alloc _).then Hm1.out (fun _ _ hf => hf)).drew.trans Hm2.out) ⟨A, ⟨c, Hd.out⟩, .inl rfl, Hm.out⟩⟩

theorem does_any (D : DS) (h : Dk w p A c D) (ho : OpAt w Bd B T Y o) : Calls Try.prog 13 #[.pointer (some ⟨p, 0, none⟩), .agg (opCells o B T Y)] w fun e w' =>
    e = .returned (.int .i64 (D.err o)) ∧ DPost w p A (D.step o) w' := by
  obtain ⟨l, s, r, br⟩ := D
  have hl := kd_lt o.k
  by_cases h0 : kd o.k = 0
  · exact does_append p A c l s r br w Bd B T Y o h ho h0
  · by_cases h1 : kd o.k = 1
    · exact does_sync p A c l s r br w B T Y o h h1
    · by_cases h2 : kd o.k = 2
      · exact does_cut p A c l s r br w B T Y o h h2
      · by_cases h3 : kd o.k = 3
        · exact does_break p A c l s r br w B T Y o h h3
        · exact does_up p A c l s r br w Bd B T Y o h ho (by omega)
end
end Go.Proofs.Ytnemlmhmemndhaa
