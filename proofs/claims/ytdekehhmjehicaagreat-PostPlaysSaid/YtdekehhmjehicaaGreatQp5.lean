import Derived.Test.YtdekehhmjehicaaGreatQp4
import Derived.Test.YtdekehhmjehicaaGreatQp3
import Derived.Deep.RegionHeld3
/-
  The reference's bare. No condition.
-/
namespace Go.Proofs.YtdekehhmjehicaaGreat
set_option linter.unusedVariables false
set_option linter.unusedSimpArgs false
open Go.RowKit
set_option maxRecDepth 100000 in
set_option maxHeartbeats 8000000 in
theorem rbare_1 (w : World) (o : Od) (L : SV) (hk : o.k = 1) (b : Od) (M : SV) (hb : b = bare1 o) (hM : M = ⟨none, 0, 0⟩) :
    Calls Tryz.prog 80 #[.agg #[.int .i64 o.c, .int .i64 o.s, .int .i64 o.k, .string (txt o.acct), .string (txt o.peer), .int .i64 o.sum, .slice L.a L.n L.c, .int .i64 o.per, .int .i64 o.hold, .string (txt o.note)]] w fun e w' => e = .returned (.agg #[.int .i64 b.c, .int .i64 b.s, .int .i64 b.k, .string (txt b.acct), .string (txt b.peer), .int .i64 b.sum, .slice M.a M.n M.c, .int .i64 b.per, .int .i64 b.hold, .string (txt b.note)]) ∧ Mod none_ w w' := by
  subst hb hM
  unfold bare1
  dsimp only
  rw [hk]
  clear hk
  go_enter Tryz.func80, Tryz.ntmps80
  go_wp2_with fail
  exact ret_order rfl (w.heap.size + 1) _ rfl (Blk.alloc (heap_alloc2_new _ _ _) _) rfl rfl ⟨rfl, (((Mod.refl none_ w).alloc _).alloc _).alloc _⟩
set_option maxRecDepth 100000 in
set_option maxHeartbeats 8000000 in
theorem rbare_2 (w : World) (o : Od) (L : SV) (hk : o.k = 2) (b : Od) (M : SV) (hb : b = bare2 o) (hM : M = L) :
    Calls Tryz.prog 80 #[.agg #[.int .i64 o.c, .int .i64 o.s, .int .i64 o.k, .string (txt o.acct), .string (txt o.peer), .int .i64 o.sum, .slice L.a L.n L.c, .int .i64 o.per, .int .i64 o.hold, .string (txt o.note)]] w fun e w' => e = .returned (.agg #[.int .i64 b.c, .int .i64 b.s, .int .i64 b.k, .string (txt b.acct), .string (txt b.peer), .int .i64 b.sum, .slice M.a M.n M.c, .int .i64 b.per, .int .i64 b.hold, .string (txt b.note)]) ∧ Mod none_ w w' := by
  subst hb hM
  unfold bare2
  dsimp only
  rw [hk]
  clear hk
  go_enter Tryz.func80, Tryz.ntmps80
  go_wp2_with fail
  exact ret_order rfl (w.heap.size + 1) _ rfl (Blk.alloc (heap_alloc2_new _ _ _) _) rfl rfl ⟨rfl, (((Mod.refl none_ w).alloc _).alloc _).alloc _⟩
set_option maxRecDepth 100000 in
set_option maxHeartbeats 8000000 in
theorem rbare_3 (w : World) (o : Od) (L : SV) (hk : o.k = 3) (b : Od) (M : SV) (hb : b = bare3 o) (hM : M = ⟨none, 0, 0⟩) :
    Calls Tryz.prog 80 #[.agg #[.int .i64 o.c, .int .i64 o.s, .int .i64 o.k, .string (txt o.acct), .string (txt o.peer), .int .i64 o.sum, .slice L.a L.n L.c, .int .i64 o.per, .int .i64 o.hold, .string (txt o.note)]] w fun e w' => e = .returned (.agg #[.int .i64 b.c, .int .i64 b.s, .int .i64 b.k, .string (txt b.acct), .string (txt b.peer), .int .i64 b.sum, .slice M.a M.n M.c, .int .i64 b.per, .int .i64 b.hold, .string (txt b.note)]) ∧ Mod none_ w w' := by
  subst hb hM
  unfold bare3
  dsimp only
  rw [hk]
  clear hk
  go_enter Tryz.func80, Tryz.ntmps80
  go_wp2_with fail
  exact ret_order rfl (w.heap.size + 1) _ rfl (Blk.alloc (heap_alloc2_new _ _ _) _) rfl rfl ⟨rfl, (((Mod.refl none_ w).alloc _).alloc _).alloc _⟩
set_option maxRecDepth 100000 in
set_option maxHeartbeats 8000000 in
theorem rbare_4 (w : World) (o : Od) (L : SV) (hk : o.k = 4) (b : Od) (M : SV) (hb : b = bare4 o) (hM : M = ⟨none, 0, 0⟩) :
    Calls Tryz.prog 80 #[.agg #[.int .i64 o.c, .int .i64 o.s, .int .i64 o.k, .string (txt o.acct), .string (txt o.peer), .int .i64 o.sum, .slice L.a L.n L.c, .int .i64 o.per, .int .i64 o.hold, .string (txt o.note)]] w fun e w' => e = .returned (.agg #[.int .i64 b.c, .int .i64 b.s, .int .i64 b.k, .string (txt b.acct), .string (txt b.peer), .int .i64 b.sum, .slice M.a M.n M.c, .int .i64 b.per, .int .i64 b.hold, .string (txt b.note)]) ∧ Mod none_ w w' := by
  subst hb hM
  unfold bare4
  dsimp only
  rw [hk]
  clear hk
  go_enter Tryz.func80, Tryz.ntmps80
  go_wp2_with fail
  exact ret_order rfl (w.heap.size + 1) _ rfl (Blk.alloc (heap_alloc2_new _ _ _) _) rfl rfl ⟨rfl, (((Mod.refl none_ w).alloc _).alloc _).alloc _⟩
set_option maxRecDepth 100000 in
set_option maxHeartbeats 8000000 in
theorem rbare_5 (w : World) (o : Od) (L : SV) (hk : o.k = 5) (b : Od) (M : SV) (hb : b = bare5 o) (hM : M = ⟨none, 0, 0⟩) :
    Calls Tryz.prog 80 #[.agg #[.int .i64 o.c, .int .i64 o.s, .int .i64 o.k, .string (txt o.acct), .string (txt o.peer), .int .i64 o.sum, .slice L.a L.n L.c, .int .i64 o.per, .int .i64 o.hold, .string (txt o.note)]] w fun e w' => e = .returned (.agg #[.int .i64 b.c, .int .i64 b.s, .int .i64 b.k, .string (txt b.acct), .string (txt b.peer), .int .i64 b.sum, .slice M.a M.n M.c, .int .i64 b.per, .int .i64 b.hold, .string (txt b.note)]) ∧ Mod none_ w w' := by
  subst hb hM
  unfold bare5
  dsimp only
  rw [hk]
  clear hk
  go_enter Tryz.func80, Tryz.ntmps80
  go_wp2_with fail
  exact ret_order rfl (w.heap.size + 1) _ rfl (Blk.alloc (heap_alloc2_new _ _ _) _) rfl rfl ⟨rfl, (((Mod.refl none_ w).alloc _).alloc _).alloc _⟩
set_option maxRecDepth 100000 in
set_option maxHeartbeats 8000000 in
theorem rbare_6 (w : World) (o : Od) (L : SV) (hk : o.k = 6) (b : Od) (M : SV) (hb : b = bare6 o) (hM : M = ⟨none, 0, 0⟩) :
    Calls Tryz.prog 80 #[.agg #[.int .i64 o.c, .int .i64 o.s, .int .i64 o.k, .string (txt o.acct), .string (txt o.peer), .int .i64 o.sum, .slice L.a L.n L.c, .int .i64 o.per, .int .i64 o.hold, .string (txt o.note)]] w fun e w' => e = .returned (.agg #[.int .i64 b.c, .int .i64 b.s, .int .i64 b.k, .string (txt b.acct), .string (txt b.peer), .int .i64 b.sum, .slice M.a M.n M.c, .int .i64 b.per, .int .i64 b.hold, .string (txt b.note)]) ∧ Mod none_ w w' := by
  subst hb hM
  unfold bare6
  dsimp only
  rw [hk]
  clear hk
  go_enter Tryz.func80, Tryz.ntmps80
  go_wp2_with fail
  exact ret_order rfl (w.heap.size + 1) _ rfl (Blk.alloc (heap_alloc2_new _ _ _) _) rfl rfl ⟨rfl, (((Mod.refl none_ w).alloc _).alloc _).alloc _⟩
set_option maxRecDepth 100000 in
set_option maxHeartbeats 8000000 in
theorem rbare_7 (w : World) (o : Od) (L : SV) (hk : o.k = 7) (b : Od) (M : SV) (hb : b = bare7 o) (hM : M = ⟨none, 0, 0⟩) :
    Calls Tryz.prog 80 #[.agg #[.int .i64 o.c, .int .i64 o.s, .int .i64 o.k, .string (txt o.acct), .string (txt o.peer), .int .i64 o.sum, .slice L.a L.n L.c, .int .i64 o.per, .int .i64 o.hold, .string (txt o.note)]] w fun e w' => e = .returned (.agg #[.int .i64 b.c, .int .i64 b.s, .int .i64 b.k, .string (txt b.acct), .string (txt b.peer), .int .i64 b.sum, .slice M.a M.n M.c, .int .i64 b.per, .int .i64 b.hold, .string (txt b.note)]) ∧ Mod none_ w w' := by
  subst hb hM
  unfold bare7
  dsimp only
  rw [hk]
  clear hk
  go_enter Tryz.func80, Tryz.ntmps80
  go_wp2_with fail
  exact ret_order rfl (w.heap.size + 1) _ rfl (Blk.alloc (heap_alloc2_new _ _ _) _) rfl rfl ⟨rfl, (((Mod.refl none_ w).alloc _).alloc _).alloc _⟩
end Go.Proofs.YtdekehhmjehicaaGreat
/-
  The reference's Name. No condition.
-/
namespace Go.Proofs.YtdekehhmjehicaaGreat
set_option linter.unusedVariables false
set_option linter.unusedSimpArgs false
open Go.RowKit
def SameW (w wr : World) : Prop := w = wr
theorem sign_nat (b : UInt8) : isSign b = ((decide (97 ≤ b.toNat) && decide (b.toNat ≤ 122)) || (decide (48 ≤ b.toNat) && decide (b.toNat ≤ 57))) := by
  unfold isSign
  rfl
set_option maxRecDepth 100000 in
set_option maxHeartbeats 2000000 in
theorem rname_ok (w : World) (s : ByteArray) (hsz : s.size ≤ maxLen) : Calls Tryz.prog 81 #[.string s] w fun e w' => e = .returned (.bool (nameB s.data.toList)) ∧ w = w' := by
  unfold maxLen at hsz
  go_enter Tryz.func81, Tryz.ntmps81
  go_wp2_with fail
  go_loopw [3] (fun x wr => ∃ j : Nat, x = .int .i64 j ∧ j ≤ s.size ∧ (∀ i (h : i < s.size), i < j → isSign s[i] = true) ∧ SameW w wr) (fun x _ => s.size - (intOf x).toNat)
  case atStart => exact ⟨0, rfl, by omega, fun i _ h => absurd h (by omega), rfl⟩
  case round =>
    obtain ⟨j, rfl, hj, hall, hw⟩ := hrel
    cases hw
    by_cases hlt : j < s.size
    · obtain ⟨k, hk⟩ : ∃ k, (s[j]'hlt).toNat = k := ⟨_, rfl⟩
      have hk256 : k < 256 := by rw [← hk]; exact UInt8.toNat_lt _
      have hsg := sign_nat (s[j]'hlt)
      rw [hk] at hsg
      have hyes : isSign (s[j]'hlt) = true → ∀ i (h : i < s.size), i < j + 1 → isSign s[i] = true := fun h0 i h h1 => by
        by_cases e : i = j
        · subst e; exact h0
        · exact hall i h (by omega)
      have hno : isSign (s[j]'hlt) = false → nameB s.data.toList = false := name_no s j hlt
      have hcs : k < 48 ∨ (48 ≤ k ∧ k ≤ 57) ∨ (57 < k ∧ k < 97) ∨ (97 ≤ k ∧ k ≤ 122) ∨ 122 < k := by omega
      rcases hcs with h1 | h1 | h1 | h1 | h1
      · have f1 : decide ((97 : Int) ≤ (k : Int)) = false := decide_eq_false (by omega)
        have f2 : decide ((k : Int) ≤ 122) = true := decide_eq_true (by omega)
        have f3 : decide ((48 : Int) ≤ (k : Int)) = false := decide_eq_false (by omega)
        have f4 : decide ((k : Int) ≤ 57) = true := decide_eq_true (by omega)
        rw [show ((decide (97 ≤ k) && decide (k ≤ 122)) || (decide (48 ≤ k) && decide (k ≤ 57))) = false by simp; omega] at hsg
        have hr := hno hsg
        clear hyes hno
        replace hall := Lib.hid hall
        replace hsg := Lib.hid hsg
        replace hr := Lib.hid hr
        go_wp2_with fail
        go_ret
        exact ⟨by rw [hr.out]; rfl, rfl⟩
      · have f1 : decide ((97 : Int) ≤ (k : Int)) = false := decide_eq_false (by omega)
        have f2 : decide ((k : Int) ≤ 122) = true := decide_eq_true (by omega)
        have f3 : decide ((48 : Int) ≤ (k : Int)) = true := decide_eq_true (by omega)
        have f4 : decide ((k : Int) ≤ 57) = true := decide_eq_true (by omega)
        rw [show ((decide (97 ≤ k) && decide (k ≤ 122)) || (decide (48 ≤ k) && decide (k ≤ 57))) = true by simp; omega] at hsg
        have hr := hyes hsg
        clear hyes hno
        replace hall := Lib.hid hall
        replace hsg := Lib.hid hsg
        replace hr := Lib.hid hr
        go_wp2_with fail
        go_roundw
        case rel => exact ⟨j + 1, by go_num, by omega, hr.out, rfl⟩
        case measure => simp [intOf]; omega
      · have f1 : decide ((97 : Int) ≤ (k : Int)) = false := decide_eq_false (by omega)
        have f2 : decide ((k : Int) ≤ 122) = true := decide_eq_true (by omega)
        have f3 : decide ((48 : Int) ≤ (k : Int)) = true := decide_eq_true (by omega)
        have f4 : decide ((k : Int) ≤ 57) = false := decide_eq_false (by omega)
        rw [show ((decide (97 ≤ k) && decide (k ≤ 122)) || (decide (48 ≤ k) && decide (k ≤ 57))) = false by simp; omega] at hsg
        have hr := hno hsg
        clear hyes hno
        replace hall := Lib.hid hall
        replace hsg := Lib.hid hsg
        replace hr := Lib.hid hr
        go_wp2_with fail
        go_ret
        exact ⟨by rw [hr.out]; rfl, rfl⟩
      · have f1 : decide ((97 : Int) ≤ (k : Int)) = true := decide_eq_true (by omega)
        have f2 : decide ((k : Int) ≤ 122) = true := decide_eq_true (by omega)
        have f3 : decide ((48 : Int) ≤ (k : Int)) = true := decide_eq_true (by omega)
        have f4 : decide ((k : Int) ≤ 57) = false := decide_eq_false (by omega)
        rw [show ((decide (97 ≤ k) && decide (k ≤ 122)) || (decide (48 ≤ k) && decide (k ≤ 57))) = true by simp; omega] at hsg
        have hr := hyes hsg
        clear hyes hno
        replace hall := Lib.hid hall
        replace hsg := Lib.hid hsg
        replace hr := Lib.hid hr
        go_wp2_with fail
        go_roundw
        case rel => exact ⟨j + 1, by go_num, by omega, hr.out, rfl⟩
        case measure => simp [intOf]; omega
      · have f1 : decide ((97 : Int) ≤ (k : Int)) = true := decide_eq_true (by omega)
        have f2 : decide ((k : Int) ≤ 122) = false := decide_eq_false (by omega)
        have f3 : decide ((48 : Int) ≤ (k : Int)) = true := decide_eq_true (by omega)
        have f4 : decide ((k : Int) ≤ 57) = false := decide_eq_false (by omega)
        rw [show ((decide (97 ≤ k) && decide (k ≤ 122)) || (decide (48 ≤ k) && decide (k ≤ 57))) = false by simp; omega] at hsg
        have hr := hno hsg
        clear hyes hno
        replace hall := Lib.hid hall
        replace hsg := Lib.hid hsg
        replace hr := Lib.hid hr
        go_wp2_with fail
        go_ret
        exact ⟨by rw [hr.out]; rfl, rfl⟩
    · have hres := name_all s (fun i h => hall i h (by omega))
      by_cases hz : s.size = 0
      · have e1 : decide ((1 : Int) ≤ (s.size : Int)) = false := decide_eq_false (by omega)
        replace hall := Lib.hid hall
        replace hres := Lib.hid hres
        go_wp2_with fail
        go_ret
        exact ⟨by rw [hres.out, hz]; rfl, rfl⟩
      · have e1 : decide ((1 : Int) ≤ (s.size : Int)) = true := decide_eq_true (by omega)
        replace hall := Lib.hid hall
        replace hres := Lib.hid hres
        go_wp2_with fail
        go_ret
        refine ⟨?_, rfl⟩
        rw [hres.out, decide_eq_true (show 0 < s.size by omega), Bool.true_and]
        show Ending.returned (.bool (decide ((s.size : Int) ≤ 8))) = _
        congr 2
        exact decide_eq_decide.2 (by omega)
end Go.Proofs.YtdekehhmjehicaaGreat
