/-
  The contract of disk.Up. No condition.
-/
import Derived.Test.YtnemlmhmemndhaaDisk
import Derived.Deep.DeepCutAuto
namespace Go.Proofs.Ytnemlmhmemndhaa
set_option linter.unusedVariables false
open Go.RowKit

theorem spv_length (xs : List (Int × UInt8)) : (spv xs).length = xs.length * 2 := by
  induction xs with
  | nil => rfl
  | cons x xs ih => simp only [spv, List.flatMap_cons, List.length_append, List.length_cons, List.length_nil] at ih ⊢; omega
theorem spv_at (xs : List (Int × UInt8)) : ∀ (j : Nat) (hj : j < xs.length), (spv xs)[j * 2]? = some (.int .i64 xs[j].1) ∧ (spv xs)[j * 2 + 1]? = some (bv xs[j].2) := by
  induction xs with
  | nil => intro j hj; cases hj
  | cons x xs ih =>
    intro j hj
    cases j with
    | zero => simp [spv]
    | succ j =>
      have := ih j (by simpa using hj)
      have e : (j + 1) * 2 = j * 2 + 2 := by omega
      rw [e]
      simpa [spv] using this

/-- What holds behind j spoils. -/
def UpRel (w : World) (p : Nat) (A : Option Addr) (c : Nat) (l : List UInt8) (s r : Nat) (b : Bool) (kp : Nat) (xs : List (Int × UInt8)) (j : Nat) (wr : World) : Prop :=
  Dk wr p A c ⟨spoils_ s kp l (xs.take j), s, r, b⟩ ∧ Mod (dkf p A) w wr

section
variable (p : Nat) (A : Option Addr) (c : Nat) (l : List UInt8) (s r : Nat) (w : World)
set_option maxHeartbeats 400000 in
theorem disk_up (b : Bool) (h : Dk w p A c ⟨l, s, r, b⟩) (k : Int) (B : Option Addr) (n d : Nat) (xs : List (Int × UInt8)) (hx : Rd w 2 B n (spv xs)) (hB : ∀ i, fp B i → ¬ dkf p A i) (hnm : n ≤ 140737488351232) : Calls Try.prog 15 #[.pointer (some ⟨p, 0, none⟩), .int .i64 k, .slice B n d] w fun e w' =>
    e = .returned (.tuple #[]) ∧ Dk w' p A c ⟨(spoils_ s (upKeep l s k) l xs).take (s + upKeep l s k), s + upKeep l s k, r, false⟩ ∧ Mod (dkf p A) w w' := by
  have h0 := h.c0
  have h1 := h.c1
  have hlen : l.length ≤ 65536 := Nat.le_trans h.2.2.2.1 h.2.2.2.2
  have hs : s ≤ l.length := h.2.2.1
  have hc : l.length ≤ c := h.2.1.2.1
  have hxn : xs.length = n := by have := hx.1; rw [spv_length] at this; omega
  have Hxn := Lib.hid hxn
  have H := Lib.hid h
  have HB := Lib.hid hB
  obtain ⟨kp, hkp⟩ : ∃ kp, kp = upKeep l s k := ⟨_, rfl⟩
  have hkp' : kp = (min (max k 0) ((l.length : Int) - s)).toNat := hkp
  have hkl : s + kp ≤ l.length := by omega
  rw [← hkp]
  have Hkp := Lib.hid hkp'
  clear h hkp hkp' hB hxn
  go_enter Try.func15, Try.ntmps15
  go_upto_region 2 with (go_quiet (fail))
  go_cut [1] (fun s1 wx => s1 = .int .i64 (kp : Int) ∧ wx = w.drewN nq)
  case first =>
    go_wp2
    all_goals go_meet
    all_goals
      have e := Hkp.out
      refine ⟨?_, rfl⟩
      congr 1
      omega
  case rest =>
    obtain ⟨rfl, rfl⟩ := hcut
    go_wp2
    go_loopw [27] (fun i wr => ∃ j : Nat, j ≤ n ∧ i = .int .i64 j ∧ UpRel w p A c l s r b kp xs j wr) (fun i _ => n - (intOf i).toNat)
    case atStart => exact ⟨0, Nat.zero_le _, rfl, H.out, (Mod.refl _ w).drewN _⟩
    case round =>
      obtain ⟨j, hj, rfl, hr⟩ := hrel
      clear h0 h1
      have h := hr.1
      have hlj : (spoils_ s kp l (xs.take j)).length = l.length := spoils_length _ _ _ _
      have h0 := h.c0
      have h1 := h.c1
      simp only [hlj] at h0 h1
      have Hr := Lib.hid hr
      have Hlj := Lib.hid hlj
      clear h hr hlj
      by_cases hlt : j < n
      · obtain ⟨bb, bo, rfl, hcell⟩ := (hx.mod Hr.out.2 HB.out).form (by omega) (by omega)
        obtain ⟨x, hxj⟩ : ∃ x, xs[j]? = some x := ⟨_, List.getElem?_eq_getElem (by have := Hxn.out; omega)⟩
        obtain ⟨ax, bx⟩ := x
        have hsp := spv_at xs j (by have := Hxn.out; omega)
        have hc0 := hcell _ _ hsp.1
        have hc1 := hcell _ _ hsp.2
        rw [← Nat.add_assoc] at hc1
        have hxe : xs[j]'(by have := Hxn.out; omega) = (ax, bx) := by
          rw [List.getElem?_eq_getElem (by have := Hxn.out; omega)] at hxj
          injection hxj
        rw [hxe] at hc0 hc1
        clear hsp hcell hxe
        have Hxj := Lib.hid hxj
        clear hxj
        simp only [bv] at hc0 hc1
        by_cases hin : 0 ≤ ax ∧ ax < kp
        · obtain ⟨hin1, hin2⟩ := hin
          obtain ⟨g, cur, hA, _⟩ := Hr.out.1.2.1.form (by have := Hlj.out; show 0 < (spoils_ s kp l (xs.take j)).length; omega)
          subst hA
          obtain ⟨an, rfl⟩ := Int.eq_ofNat_of_zero_le hin1
          have hcs : wr.cell? ⟨g, s + an, none⟩ = (bvs (spoils_ s kp l (xs.take j)))[s + an]? := Hr.out.1.2.1.cell_ rfl _ (by have := Hlj.out; show s + an < (spoils_ s kp l (xs.take j)).length * 1; omega)
          rw [bvs_get (by have := Hlj.out; omega)] at hcs
          have hfs : wr.frozen? ⟨g, s + an, none⟩ = false := Hr.out.1.2.1.free rfl _
          have hnext : UpRel w p (some ⟨g, 0, none⟩) c l s r b kp xs (j + 1) ((wr.setCell ⟨g, s + an, none⟩ (.int .u8 (bx.toNat : Int))).alloc (.cells #[.int .i64 (an : Int), .int .u8 (bx.toNat : Int)] 49)).drew := by
            obtain ⟨hr1, hr2⟩ := Hr.out
            have e : xs.take (j + 1) = xs.take j ++ [((an : Int), bx)] := by rw [List.take_add_one, Hxj.out]; rfl
            have e2 : spoils_ s kp l (xs.take (j + 1)) = (spoils_ s kp l (xs.take j)).set (s + an) bx := by
              rw [e, spoils_, List.foldl_append]
              simp only [List.foldl_cons, List.foldl_nil, spoil1]
              rw [if_pos ⟨by omega, by omega⟩]
              rfl
            have hpg : p ≠ g := fun e => hr1.apart ⟨_, rfl, e.symm⟩
            have hm : Mod (dkf p (some ⟨g, 0, none⟩)) w (wr.setCell ⟨g, s + an, none⟩ (.int .u8 (bx.toNat : Int))) := hr2.setCell (p := ⟨g, s + an, none⟩) (.inl (.inr ⟨_, rfl, rfl⟩)) _
            refine ⟨Dk.mod0 ?_ ((Mod.refl _ (wr.setCell ⟨g, s + an, none⟩ (.int .u8 (bx.toNat : Int)))).alloc _).drew, (hm.alloc _).drew⟩
            refine ⟨?_, ?_, ?_⟩
            · show Blk _ _ _ #[.slice _ (spoils_ s kp l (xs.take (j + 1))).length c, _, _, _]
              rw [e2, List.length_set]
              exact hr1.1.far (p := ⟨g, s + an, none⟩) hpg _
            · show Ow _ _ _ _ (spoils_ s kp l (xs.take (j + 1))).length _ (bvs (spoils_ s kp l (xs.take (j + 1))))
              rw [e2, List.length_set, bvs_set]
              exact hr1.2.1.set_ rfl _ _
            · have := hr1.2.2
              simp only [DS.fit, e2, List.length_set] at this ⊢
              exact this
          have Hnext := Lib.hid hnext
          clear hnext
          have hpl : p < wr.heap.size := World.block_lt_of_cell? wr ⟨p, 0, none⟩ h0
          have hgl : g < wr.heap.size := World.block_lt_of_cell? wr ⟨g, s + an, none⟩ hcs
          go_upto_region 7 with fail
          refine wp_region_still_tail 13 (by kernel_rfl) (by kernel_rfl) ?_
          simp only [List.take_succ_cons, List.take_zero, List.drop_succ_cons, List.drop_zero]
          change wpStill _ _ (World.drew _) _ _ _
          repeat still_step
          refine wpStill_nil ?_
          change wpList _ _ _ _ _ (World.drew _)
          go_wp2
          go_roundw
          case rel => exact ⟨j + 1, by omega, by go_num, Hnext.out⟩
          case measure => simp [intOf]; omega
        · have hnext : UpRel w p A c l s r b kp xs (j + 1) (wr.alloc (.cells #[.int .i64 ax, .int .u8 (bx.toNat : Int)] 49)) := by
            obtain ⟨hr1, hr2⟩ := Hr.out
            refine ⟨?_, hr2.alloc _⟩
            have e : xs.take (j + 1) = xs.take j ++ [(ax, bx)] := by rw [List.take_add_one, Hxj.out]; rfl
            rw [e, spoils_, List.foldl_append]
            simp only [List.foldl_cons, List.foldl_nil, spoil1]
            rw [if_neg hin]
            exact hr1.mod0 ((Mod.refl _ wr).alloc _)
          have Hnext := Lib.hid hnext
          clear hnext
          rcases Int.lt_or_le ax 0 with ha | ha
          · clear hin
            go_wp2
            go_roundw
            case rel => exact ⟨j + 1, by omega, by go_num, Hnext.out⟩
            case measure => simp [intOf]; omega
          · have ha' : (kp : Int) ≤ ax := by omega
            clear hin
            go_wp2
            go_roundw
            case rel => exact ⟨j + 1, by omega, by go_num, Hnext.out⟩
            case measure => simp [intOf]; omega
      · have hjn : j = n := by omega
        subst hjn
        have h3 := Hr.out.1.c3
        have f0 := Hr.out.1.1.frozen 0
        have f1 := Hr.out.1.1.frozen 1
        have f3 := Hr.out.1.1.frozen 3
        clear hlt
        have hb0 : (0 : Int) ≤ (s : Int) + kp := by omega
        have hb1 : (s : Int) + kp ≤ (c : Int) := by omega
        go_upto_region 10 with fail
        refine wp_region_still_tail 10 (by kernel_rfl) (by kernel_rfl) ?_
        simp only [List.take_succ_cons, List.take_zero, List.drop_succ_cons, List.drop_zero]
        change wpStill _ _ (World.drew _) _ _ _
        repeat still_step
        refine wpStill_nil ?_
        change wpList _ _ _ _ _ (World.drew _)
        go_wp2
        go_end0
        have hr := Hr.out
        have e : xs.take j = xs := List.take_of_length_le (by have := Hxn.out; omega)
        obtain ⟨hr1, hr2⟩ := hr
        rw [e] at hr1
        have hll : (spoils_ s kp l xs).length = l.length := spoils_length _ _ _ _
        refine ⟨rfl, ⟨?_, ?_, ?_⟩, ?_⟩
        · have e1 : ((spoils_ s kp l xs).take (s + kp)).length = s + kp := by rw [List.length_take, hll]; omega
          show Blk _ _ _ #[.slice _ ((spoils_ s kp l xs).take (s + kp)).length c, .int .i64 ((s + kp : Nat) : Int), _, _]
          rw [e1]
          exact (((hr1.1.set_ 1 (.int .i64 ((s : Int) + kp))).set_ 0 (.slice A (s + kp) c)).set_ 3 (.bool false)).drew
        · have e1 : ((spoils_ s kp l xs).take (s + kp)).length = s + kp := by rw [List.length_take, hll]; omega
          show Ow _ _ _ _ ((spoils_ s kp l xs).take (s + kp)).length _ _
          rw [e1, bvs_take]
          have h5 := hr1.2.1.take_ (k := s + kp) (by show s + kp ≤ (spoils_ s kp l xs).length; omega)
          rw [Nat.mul_one] at h5
          exact h5.mod ((((Mod.refl (fun k => k = p) wr).setCell (p := ⟨p, 1, none⟩) (.inl rfl) _).setCell (p := ⟨p, 0, none⟩) (.inl rfl) _).setCell (p := ⟨p, 3, none⟩) (.inl rfl) _).drew (fun i hi he => hr1.apart (he ▸ hi))
        · have := hr1.2.2
          simp only [DS.fit, List.length_take, hll] at this ⊢
          omega
        · exact (((hr2.setCell (p := ⟨p, 1, none⟩) (.inl (.inl rfl)) _).setCell (p := ⟨p, 0, none⟩) (.inl (.inl rfl)) _).setCell (p := ⟨p, 3, none⟩) (.inl (.inl rfl)) _).drew
end
end Go.Proofs.Ytnemlmhmemndhaa
