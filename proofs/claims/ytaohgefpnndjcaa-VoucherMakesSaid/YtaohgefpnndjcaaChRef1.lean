/-
  The reference's Name, Ahead and At.
-/
import Derived.Test.YtaohgefpnndjcaaChPlP
import Derived.Test.YtaohgefpnndjcaaChSame
import Derived.Test.YtaohgefpnndjcaaName
import Derived.Deep.RegionHeld3
namespace Go.Proofs.Ytaohgefpnndjcaa
set_option linter.unusedVariables false
open Go.RowKit
def SameW (w wr : World) : Prop := w = wr
theorem sign_nat (b : UInt8) : isSign b = ((decide (97 ≤ b.toNat) && decide (b.toNat ≤ 122)) || (decide (48 ≤ b.toNat) && decide (b.toNat ≤ 57))) := by
  unfold isSign
  rfl
set_option maxRecDepth 100000 in
set_option maxHeartbeats 2000000 in
theorem rname_ok (w : World) (s : ByteArray) (hsz : s.size ≤ maxLen) : Calls Try.prog 52 #[.string s] w fun e w' => e = .returned (.bool (nameB s.data.toList)) ∧ w = w' := by
  unfold maxLen at hsz
  go_enter Try.func52, Try.ntmps52
  go_wp2_with fail
  go_loopw [3] (fun x wr => ∃ j : Nat, x = .int .i64 j ∧ j ≤ s.size ∧ (∀ i (h : i < s.size), i < j → isSign s[i] = true) ∧ SameW w wr) (fun x _ => s.size - (intOf x).toNat)
  case atStart => exact ⟨0, rfl, by omega, fun i _ h => absurd h (by omega), rfl⟩
  case round =>
    obtain ⟨j, rfl, hj, hall, hw⟩ := hrel
    cases hw
    by_cases hlt : j < s.size
    · obtain ⟨k, hk⟩ : ∃ k, (s[j]'hlt).toNat = k := ⟨_, rfl⟩
      have hk256 : k < 256 := by rw [← hk]; exact UInt8.toNat_lt _
      have hsg := sign_nat (s[j]'hlt)
      rw [hk] at hsg
      have hyes : isSign (s[j]'hlt) = true → ∀ i (h : i < s.size), i < j + 1 → isSign s[i] = true := fun h0 i h h1 => by
        by_cases e : i = j
        · subst e; exact h0
        · exact hall i h (by omega)
      have hno : isSign (s[j]'hlt) = false → nameB s.data.toList = false := name_no s j hlt
      have hcs : k < 48 ∨ (48 ≤ k ∧ k ≤ 57) ∨ (57 < k ∧ k < 97) ∨ (97 ≤ k ∧ k ≤ 122) ∨ 122 < k := by omega
      rcases hcs with h1 | h1 | h1 | h1 | h1
      · have f1 : decide ((97 : Int) ≤ (k : Int)) = false := decide_eq_false (by omega)
        have f2 : decide ((k : Int) ≤ 122) = true := decide_eq_true (by omega)
        have f3 : decide ((48 : Int) ≤ (k : Int)) = false := decide_eq_false (by omega)
        have f4 : decide ((k : Int) ≤ 57) = true := decide_eq_true (by omega)
        rw [show ((decide (97 ≤ k) && decide (k ≤ 122)) || (decide (48 ≤ k) && decide (k ≤ 57))) = false by simp; omega] at hsg
        have hr := hno hsg
        clear hyes hno
        replace hall := Lib.hid hall
        replace hsg := Lib.hid hsg
        replace hr := Lib.hid hr
        go_wp2_with fail
        go_ret
        exact ⟨by rw [hr.out]; rfl, rfl⟩
      · have f1 : decide ((97 : Int) ≤ (k : Int)) = false := decide_eq_false (by omega)
        have f2 : decide ((k : Int) ≤ 122) = true := decide_eq_true (by omega)
        have f3 : decide ((48 : Int) ≤ (k : Int)) = true := decide_eq_true (by omega)
        have f4 : decide ((k : Int) ≤ 57) = true := decide_eq_true (by omega)
        rw [show ((decide (97 ≤ k) && decide (k ≤ 122)) || (decide (48 ≤ k) && decide (k ≤ 57))) = true by simp; omega] at hsg
        have hr := hyes hsg
        clear hyes hno
        replace hall := Lib.hid hall
        replace hsg := Lib.hid hsg
        replace hr := Lib.hid hr
        go_wp2_with fail
        go_roundw
        case rel => exact ⟨j + 1, by go_num, by omega, hr.out, rfl⟩
        case measure => simp [intOf]; omega
      · have f1 : decide ((97 : Int) ≤ (k : Int)) = false := decide_eq_false (by omega)
        have f2 : decide ((k : Int) ≤ 122) = true := decide_eq_true (by omega)
        have f3 : decide ((48 : Int) ≤ (k : Int)) = true := decide_eq_true (by omega)
        have f4 : decide ((k : Int) ≤ 57) = false := decide_eq_false (by omega)
        rw [show ((decide (97 ≤ k) && decide (k ≤ 122)) || (decide (48 ≤ k) && decide (k ≤ 57))) = false by simp; omega] at hsg
        have hr := hno hsg
        clear hyes hno
        replace hall := Lib.hid hall
        replace hsg := Lib.hid hsg
        replace hr := Lib.hid hr
        go_wp2_with fail
        go_ret
        exact ⟨by rw [hr.out]; rfl, rfl⟩
      · have f1 : decide ((97 : Int) ≤ (k : Int)) = true := decide_eq_true (by omega)
        have f2 : decide ((k : Int) ≤ 122) = true := decide_eq_true (by omega)
        have f3 : decide ((48 : Int) ≤ (k : Int)) = true := decide_eq_true (by omega)
        have f4 : decide ((k : Int) ≤ 57) = false := decide_eq_false (by omega)
        rw [show ((decide (97 ≤ k) && decide (k ≤ 122)) || (decide (48 ≤ k) && decide (k ≤ 57))) = true by simp; omega] at hsg
        have hr := hyes hsg
        clear hyes hno
        replace hall := Lib.hid hall
        replace hsg := Lib.hid hsg
        replace hr := Lib.hid hr
        go_wp2_with fail
        go_roundw
        case rel => exact ⟨j + 1, by go_num, by omega, hr.out, rfl⟩
        case measure => simp [intOf]; omega
      · have f1 : decide ((97 : Int) ≤ (k : Int)) = true := decide_eq_true (by omega)
        have f2 : decide ((k : Int) ≤ 122) = false := decide_eq_false (by omega)
        have f3 : decide ((48 : Int) ≤ (k : Int)) = true := decide_eq_true (by omega)
        have f4 : decide ((k : Int) ≤ 57) = false := decide_eq_false (by omega)
        rw [show ((decide (97 ≤ k) && decide (k ≤ 122)) || (decide (48 ≤ k) && decide (k ≤ 57))) = false by simp; omega] at hsg
        have hr := hno hsg
        clear hyes hno
        replace hall := Lib.hid hall
        replace hsg := Lib.hid hsg
        replace hr := Lib.hid hr
        go_wp2_with fail
        go_ret
        exact ⟨by rw [hr.out]; rfl, rfl⟩
    · have hres := name_all s (fun i h => hall i h (by omega))
      by_cases hz : s.size = 0
      · have e1 : decide ((1 : Int) ≤ (s.size : Int)) = false := decide_eq_false (by omega)
        replace hall := Lib.hid hall
        replace hres := Lib.hid hres
        go_wp2_with fail
        go_ret
        exact ⟨by rw [hres.out, hz]; rfl, rfl⟩
      · have e1 : decide ((1 : Int) ≤ (s.size : Int)) = true := decide_eq_true (by omega)
        replace hall := Lib.hid hall
        replace hres := Lib.hid hres
        go_wp2_with fail
        go_ret
        refine ⟨?_, rfl⟩
        rw [hres.out, decide_eq_true (show 0 < s.size by omega), Bool.true_and]
        show Ending.returned (.bool (decide ((s.size : Int) ≤ 8))) = _
        congr 2
        exact decide_eq_decide.2 (by omega)
theorem bb_app (x y : List UInt8) : ∀ p : List UInt8, bytesBefore (p ++ x) (p ++ y) = bytesBefore x y
  | [] => rfl
  | c :: p => by
    show bytesBefore (c :: (p ++ x)) (c :: (p ++ y)) = _
    rw [Bool.eq_iff_iff, bb_cons, bb_app x y p]
    constructor
    · rintro (h | h)
      · exact absurd h (by rw [UInt8.lt_iff_toNat_lt]; omega)
      · exact h.2
    · exact fun h => .inr ⟨rfl, h⟩
theorem bb_at {a b : List UInt8} {j : Nat} (ha : j < a.length) (hb : j < b.length) (ht : a.take j = b.take j) (hne : a[j].toNat ≠ b[j].toNat) : bytesBefore a b = decide (a[j].toNat < b[j].toNat) := by
  have e1 : a = a.take j ++ a[j] :: a.drop (j + 1) := by rw [← List.drop_eq_getElem_cons ha, List.take_append_drop]
  have e2 : b = a.take j ++ b[j] :: b.drop (j + 1) := by rw [ht, ← List.drop_eq_getElem_cons hb, List.take_append_drop]
  have key : ∀ (x y : UInt8) (r s : List UInt8), x.toNat ≠ y.toNat → bytesBefore (x :: r) (y :: s) = decide (x.toNat < y.toNat) := by
    intro x y r s hn
    rw [Bool.eq_iff_iff, bb_cons, decide_eq_true_iff, UInt8.lt_iff_toNat_lt]
    constructor
    · rintro (h | h)
      · omega
      · exact absurd (by rw [h.1]) hn
    · intro h; exact .inl (by omega)
  have e3 : bytesBefore a b = bytesBefore (a.take j ++ a[j] :: a.drop (j + 1)) (a.take j ++ b[j] :: b.drop (j + 1)) := by rw [← e1, ← e2]
  rw [e3, bb_app, key _ _ _ _ hne]
theorem bb_end {a b : List UInt8} {j : Nat} (ha : j ≤ a.length) (hb : j ≤ b.length) (ht : a.take j = b.take j) (he : j = a.length ∨ j = b.length) : bytesBefore a b = decide (a.length < b.length) := by
  have e1 : bytesBefore a b = bytesBefore (a.take j ++ a.drop j) (a.take j ++ b.drop j) := by rw [List.take_append_drop, ht, List.take_append_drop]
  rw [e1, bb_app]
  rcases he with h | h
  · rw [List.drop_eq_nil_of_le (by omega)]
    cases hd : b.drop j with
    | nil =>
      have := congrArg List.length hd
      simp at this
      rw [decide_eq_false (by omega)]; rfl
    | cons y l =>
      have := congrArg List.length hd
      simp at this
      rw [decide_eq_true (by omega)]; rfl
  · rw [show b.drop j = [] from List.drop_eq_nil_of_le (by omega), decide_eq_false (by omega)]
    cases a.drop j <;> rfl
set_option maxRecDepth 100000 in
set_option maxHeartbeats 2000000 in
theorem ahead_ok (w : World) (a b : List UInt8) (hal : a.length ≤ 1000000) (hbl : b.length ≤ 1000000) : Calls Try.prog 50 #[.string (txt a), .string (txt b)] w fun e w' => e = .returned (.bool (bytesBefore a b)) ∧ ∃ k, w' = w.drewN k := by
  have za := txt_size' a
  have zb := txt_size' b
  go_enter Try.func50, Try.ntmps50
  go_wp2_with fail
  go_loopw [5] (fun x wr => ∃ j : Nat, x = .int .i64 j ∧ j ≤ a.length ∧ j ≤ b.length ∧ a.take j = b.take j ∧ ∃ k, wr = w.drewN k) (fun x _ => a.length - (intOf x).toNat)
  case atStart => exact ⟨0, rfl, by omega, by omega, rfl, 0, rfl⟩
  case round =>
    obtain ⟨j, rfl, hja, hjb, htk, k, rfl⟩ := hrel
    by_cases hla : j < a.length
    · have c1 : decide ((j : Int) < (a.length : Int)) = true := decide_eq_true (by omega)
      by_cases hlb : j < b.length
      · have c2 : decide ((j : Int) < (b.length : Int)) = true := decide_eq_true (by omega)
        obtain ⟨x, hx⟩ : ∃ x, ((txt a)[j]'(by rw [za]; exact hla)).toNat = x := ⟨_, rfl⟩
        obtain ⟨y, hy⟩ : ∃ y, ((txt b)[j]'(by rw [zb]; exact hlb)).toNat = y := ⟨_, rfl⟩
        have hx' : a[j].toNat = x := hx
        have hy' : b[j].toNat = y := hy
        by_cases hxy : x = y
        · subst hxy
          have hab : a[j] = b[j] := UInt8.toNat_inj.1 (by omega)
          have hn : a.take (j + 1) = b.take (j + 1) := by rw [List.take_succ_eq_append_getElem hla, List.take_succ_eq_append_getElem hlb, htk, hab]
          clear hab hx' hy'
          replace htk := Lib.hid htk
          replace hn := Lib.hid hn
          go_wp2_with fail
          go_quiet (fail)
          go_wp2_with fail
          go_roundw
          case rel => exact ⟨j + 1, by go_num, by omega, by omega, hn.out, _, rfl⟩
          case measure => simp [intOf]; omega
        · have hn := bb_at hla hlb htk (by omega)
          rw [hx', hy'] at hn
          have d1 : (x == y) = false := by simpa using hxy
          have d2 : ((x : Int) == (y : Int)) = false := by rw [beq_eq_false_iff_ne]; omega
          clear hx' hy'
          replace htk := Lib.hid htk
          replace hn := Lib.hid hn
          go_wp2_with fail
          go_quiet (fail)
          go_wp2_with fail
          go_quiet (fail)
          go_wp2_with fail
          go_ret
          exact ⟨by rw [hn.out]; rfl, _, by rw [World.drewN_drewN, World.drewN_drewN]⟩
      · have c2 : decide ((j : Int) < (b.length : Int)) = false := decide_eq_false (by omega)
        have hn := bb_end hja hjb htk (.inr (by omega))
        replace htk := Lib.hid htk
        replace hn := Lib.hid hn
        go_wp2_with fail
        go_ret
        exact ⟨by rw [hn.out]; rfl, _, rfl⟩
    · have c1 : decide ((j : Int) < (a.length : Int)) = false := decide_eq_false (by omega)
      have hn := bb_end hja hjb htk (.inl (by omega))
      replace htk := Lib.hid htk
      replace hn := Lib.hid hn
      go_wp2_with fail
      go_ret
      exact ⟨by rw [hn.out]; rfl, _, rfl⟩
/-- the reference's chart: the struct's block q; the row of its accounts lies at B or later -/
def RefAt (w : World) (q B : Nat) (C : List Ac) : Prop := ∃ A c, Blk w q 36 #[.slice A C.length c] ∧ OwA w A C.length c C ∧ ∀ k, fp A k → B ≤ k
theorem RefAt.mod {F : Nat → Prop} {w w' : World} {q B : Nat} {C : List Ac} (h : RefAt w q B C) (hm : Mod F w w') (hq : ¬ F q) (hB : ∀ k, B ≤ k → k < w.heap.size → ¬ F k) : RefAt w' q B C := by
  obtain ⟨A, c, h1, h2, h3⟩ := h
  exact ⟨A, c, h1.mod hm hq, Ow.mod h2 hm (fun k hk => hB k (h3 k hk) (Ow.lt h2 k hk)), h3⟩
theorem RefAt.mod0 {w w' : World} {q B : Nat} {C : List Ac} (h : RefAt w q B C) (hm : Mod none_ w w') : RefAt w' q B C := h.mod hm (fun h => h) (fun _ _ _ h => h)
theorem RefAt.cell {w : World} {q B : Nat} {C : List Ac} (h : RefAt w q B C) : ∃ A c, w.cell? ⟨q, 0, none⟩ = some (.slice A C.length c) ∧ RdA w A C.length C ∧ C.length ≤ c := by
  obtain ⟨A, c, h1, h2, _⟩ := h
  exact ⟨A, c, h1.cell_ rfl, Ow.rd h2, h2.2.1⟩
set_option maxRecDepth 100000 in
set_option maxHeartbeats 2000000 in
theorem rat_some (w : World) (q B : Nat) (C : List Ac) (s : List UInt8) (i : Nat) (h : RefAt w q B C) (hl : C.length ≤ 1000) (hst : StandsAt C s i) :
    Calls Try.prog 44 #[.pointer (some ⟨q, 0, none⟩), .string (txt s)] w fun e w' => e = .returned (.int .i64 i) ∧ w = w' := by
  obtain ⟨hi, hn, hb⟩ := hst
  obtain ⟨A, c, hcell, hrd, hc⟩ := h.cell
  obtain ⟨g, o, rfl, -⟩ := rda_get hrd hi (by omega)
  replace hrd := Lib.hid hrd
  replace hn := Lib.hid hn
  replace hb := Lib.hid hb
  replace h := Lib.hid h
  go_enter Try.func44, Try.ntmps44
  go_wp2_with fail
  go_loopw [5] (fun x wr => ∃ j : Nat, x = .int .i64 j ∧ j ≤ i ∧ SameW w wr) (fun x _ => i - (intOf x).toNat)
  case atStart => exact ⟨0, rfl, by omega, rfl⟩
  case round =>
    obtain ⟨j, rfl, hj, hw⟩ := hrel
    cases hw
    obtain ⟨g', o', hge, y1, -, -, -⟩ := rda_get hrd.out (show j < C.length by omega) (by omega)
    have hge1 : g = g' ∧ o = o' := by injection hge with h; injection h with h1 h2; exact ⟨h1, h2⟩
    obtain ⟨rfl, rfl⟩ := hge1
    clear hge
    by_cases hji : j = i
    · subst hji
      have hn2 := hn.out
      rw [hn2] at y1
      clear hn2
      go_wp2_with fail
      go_ret
      exact ⟨rfl, rfl⟩
    · have hn2 := hb.out j (by omega)
      have e1 : (C[j].n == s) = false := by simpa using hn2
      generalize C[j].n = yn at y1 e1
      clear hn2
      go_wp2_with fail
      go_roundw
      case rel => exact ⟨j + 1, by go_num, by omega, rfl⟩
      case measure => simp [intOf]; omega
set_option maxRecDepth 100000 in
set_option maxHeartbeats 2000000 in
theorem rat_none (w : World) (q B : Nat) (C : List Ac) (s : List UInt8) (h : RefAt w q B C) (hl : C.length ≤ 1000) (hno : getC C s = none) :
    Calls Try.prog 44 #[.pointer (some ⟨q, 0, none⟩), .string (txt s)] w fun e w' => e = .returned (.int .i64 (-1)) ∧ w = w' := by
  have hb := stands_none hno
  obtain ⟨A, c, hcell, hrd, hc⟩ := h.cell
  replace hrd := Lib.hid hrd
  replace hb := Lib.hid hb
  replace h := Lib.hid h
  replace hno := Lib.hid hno
  go_enter Try.func44, Try.ntmps44
  go_wp2_with fail
  go_loopw [5] (fun x wr => ∃ j : Nat, x = .int .i64 j ∧ j ≤ C.length ∧ SameW w wr) (fun x _ => C.length - (intOf x).toNat)
  case atStart => exact ⟨0, rfl, by omega, rfl⟩
  case round =>
    obtain ⟨j, rfl, hj, hw⟩ := hrel
    cases hw
    by_cases hlt : j < C.length
    · obtain ⟨g, o, rfl, y1, -, -, -⟩ := rda_get hrd.out hlt (by omega)
      have hn2 := hb.out j hlt
      have e1 : (C[j].n == s) = false := by simpa using hn2
      generalize C[j].n = yn at y1 e1
      clear hn2
      go_wp2_with fail
      go_roundw
      case rel => exact ⟨j + 1, by go_num, by omega, rfl⟩
      case measure => simp [intOf]; omega
    · go_wp2_with fail
      go_ret
      exact ⟨rfl, rfl⟩
end Go.Proofs.Ytaohgefpnndjcaa
