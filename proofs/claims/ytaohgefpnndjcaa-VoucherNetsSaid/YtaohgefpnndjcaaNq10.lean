import Derived.Test.YtaohgefpnndjcaaNq9
import Derived.Test.YtaohgefpnndjcaaNq5
import Derived.Deep.RegionHeld3
import Derived.Test.YtaohgefpnndjcaaNq6
import Derived.Deep.QuietTactic
import Derived.Test.YtaohgefpnndjcaaNq2
import Derived.Laws.CopyOwn
import Derived.Deep.OwnRows
/-
  The reference's Name, Ahead and At.
-/
namespace Go.Proofs.Ytaohgefpnndjcaa
set_option linter.unusedVariables false
open Go.RowKit
def SameW (w wr : World) : Prop := w = wr
theorem sign_nat (b : UInt8) : isSign b = ((decide (97 ≤ b.toNat) && decide (b.toNat ≤ 122)) || (decide (48 ≤ b.toNat) && decide (b.toNat ≤ 57))) := by
  unfold isSign
  rfl
set_option maxRecDepth 100000 in
set_option maxHeartbeats 2000000 in
theorem rname_ok (w : World) (s : ByteArray) (hsz : s.size ≤ maxLen) : Calls Try.prog 52 #[.string s] w fun e w' => e = .returned (.bool (nameB s.data.toList)) ∧ w = w' := by
  unfold maxLen at hsz
  go_enter Try.func52, Try.ntmps52
  go_wp2_with fail
  go_loopw [3] (fun x wr => ∃ j : Nat, x = .int .i64 j ∧ j ≤ s.size ∧ (∀ i (h : i < s.size), i < j → isSign s[i] = true) ∧ SameW w wr) (fun x _ => s.size - (intOf x).toNat)
  case atStart => exact ⟨0, rfl, by omega, fun i _ h => absurd h (by omega), rfl⟩
  case round =>
    obtain ⟨j, rfl, hj, hall, hw⟩ := hrel
    cases hw
    by_cases hlt : j < s.size
    · obtain ⟨k, hk⟩ : ∃ k, (s[j]'hlt).toNat = k := ⟨_, rfl⟩
      have hk256 : k < 256 := by rw [← hk]; exact UInt8.toNat_lt _
      have hsg := sign_nat (s[j]'hlt)
      rw [hk] at hsg
      have hyes : isSign (s[j]'hlt) = true → ∀ i (h : i < s.size), i < j + 1 → isSign s[i] = true := fun h0 i h h1 => by
        by_cases e : i = j
        · subst e; exact h0
        · exact hall i h (by omega)
      have hno : isSign (s[j]'hlt) = false → nameB s.data.toList = false := name_no s j hlt
      have hcs : k < 48 ∨ (48 ≤ k ∧ k ≤ 57) ∨ (57 < k ∧ k < 97) ∨ (97 ≤ k ∧ k ≤ 122) ∨ 122 < k := by omega
      rcases hcs with h1 | h1 | h1 | h1 | h1
      · have f1 : decide ((97 : Int) ≤ (k : Int)) = false := decide_eq_false (by omega)
        have f2 : decide ((k : Int) ≤ 122) = true := decide_eq_true (by omega)
        have f3 : decide ((48 : Int) ≤ (k : Int)) = false := decide_eq_false (by omega)
        have f4 : decide ((k : Int) ≤ 57) = true := decide_eq_true (by omega)
        rw [show ((decide (97 ≤ k) && decide (k ≤ 122)) || (decide (48 ≤ k) && decide (k ≤ 57))) = false by simp; omega] at hsg
        have hr := hno hsg
        clear hyes hno
        replace hall := Lib.hid hall
        replace hsg := Lib.hid hsg
        replace hr := Lib.hid hr
        go_wp2_with fail
        go_ret
        exact ⟨by rw [hr.out]; rfl, rfl⟩
      · have f1 : decide ((97 : Int) ≤ (k : Int)) = false := decide_eq_false (by omega)
        have f2 : decide ((k : Int) ≤ 122) = true := decide_eq_true (by omega)
        have f3 : decide ((48 : Int) ≤ (k : Int)) = true := decide_eq_true (by omega)
        have f4 : decide ((k : Int) ≤ 57) = true := decide_eq_true (by omega)
        rw [show ((decide (97 ≤ k) && decide (k ≤ 122)) || (decide (48 ≤ k) && decide (k ≤ 57))) = true by simp; omega] at hsg
        have hr := hyes hsg
        clear hyes hno
        replace hall := Lib.hid hall
        replace hsg := Lib.hid hsg
        replace hr := Lib.hid hr
        go_wp2_with fail
        go_roundw
        case rel => exact ⟨j + 1, by go_num, by omega, hr.out, rfl⟩
        case measure => simp [intOf]; omega
      · have f1 : decide ((97 : Int) ≤ (k : Int)) = false := decide_eq_false (by omega)
        have f2 : decide ((k : Int) ≤ 122) = true := decide_eq_true (by omega)
        have f3 : decide ((48 : Int) ≤ (k : Int)) = true := decide_eq_true (by omega)
        have f4 : decide ((k : Int) ≤ 57) = false := decide_eq_false (by omega)
        rw [show ((decide (97 ≤ k) && decide (k ≤ 122)) || (decide (48 ≤ k) && decide (k ≤ 57))) = false by simp; omega] at hsg
        have hr := hno hsg
        clear hyes hno
        replace hall := Lib.hid hall
        replace hsg := Lib.hid hsg
        replace hr := Lib.hid hr
        go_wp2_with fail
        go_ret
        exact ⟨by rw [hr.out]; rfl, rfl⟩
      · have f1 : decide ((97 : Int) ≤ (k : Int)) = true := decide_eq_true (by omega)
        have f2 : decide ((k : Int) ≤ 122) = true := decide_eq_true (by omega)
        have f3 : decide ((48 : Int) ≤ (k : Int)) = true := decide_eq_true (by omega)
        have f4 : decide ((k : Int) ≤ 57) = false := decide_eq_false (by omega)
        rw [show ((decide (97 ≤ k) && decide (k ≤ 122)) || (decide (48 ≤ k) && decide (k ≤ 57))) = true by simp; omega] at hsg
        have hr := hyes hsg
        clear hyes hno
        replace hall := Lib.hid hall
        replace hsg := Lib.hid hsg
        replace hr := Lib.hid hr
        go_wp2_with fail
        go_roundw
        case rel => exact ⟨j + 1, by go_num, by omega, hr.out, rfl⟩
        case measure => simp [intOf]; omega
      · have f1 : decide ((97 : Int) ≤ (k : Int)) = true := decide_eq_true (by omega)
        have f2 : decide ((k : Int) ≤ 122) = false := decide_eq_false (by omega)
        have f3 : decide ((48 : Int) ≤ (k : Int)) = true := decide_eq_true (by omega)
        have f4 : decide ((k : Int) ≤ 57) = false := decide_eq_false (by omega)
        rw [show ((decide (97 ≤ k) && decide (k ≤ 122)) || (decide (48 ≤ k) && decide (k ≤ 57))) = false by simp; omega] at hsg
        have hr := hno hsg
        clear hyes hno
        replace hall := Lib.hid hall
        replace hsg := Lib.hid hsg
        replace hr := Lib.hid hr
        go_wp2_with fail
        go_ret
        exact ⟨by rw [hr.out]; rfl, rfl⟩
    · have hres := name_all s (fun i h => hall i h (by omega))
      by_cases hz : s.size = 0
      · have e1 : decide ((1 : Int) ≤ (s.size : Int)) = false := decide_eq_false (by omega)
        replace hall := Lib.hid hall
        replace hres := Lib.hid hres
        go_wp2_with fail
        go_ret
        exact ⟨by rw [hres.out, hz]; rfl, rfl⟩
      · have e1 : decide ((1 : Int) ≤ (s.size : Int)) = true := decide_eq_true (by omega)
        replace hall := Lib.hid hall
        replace hres := Lib.hid hres
        go_wp2_with fail
        go_ret
        refine ⟨?_, rfl⟩
        rw [hres.out, decide_eq_true (show 0 < s.size by omega), Bool.true_and]
        show Ending.returned (.bool (decide ((s.size : Int) ≤ 8))) = _
        congr 2
        exact decide_eq_decide.2 (by omega)
theorem bb_app (x y : List UInt8) : ∀ p : List UInt8, bytesBefore (p ++ x) (p ++ y) = bytesBefore x y
  | [] => rfl
  | c :: p => by
    show bytesBefore (c :: (p ++ x)) (c :: (p ++ y)) = _
    rw [Bool.eq_iff_iff, bb_cons, bb_app x y p]
    constructor
    · rintro (h | h)
      · exact absurd h (by rw [UInt8.lt_iff_toNat_lt]; omega)
      · exact h.2
    · exact fun h => .inr ⟨rfl, h⟩
theorem bb_at {a b : List UInt8} {j : Nat} (ha : j < a.length) (hb : j < b.length) (ht : a.take j = b.take j) (hne : a[j].toNat ≠ b[j].toNat) : bytesBefore a b = decide (a[j].toNat < b[j].toNat) := by
  have e1 : a = a.take j ++ a[j] :: a.drop (j + 1) := by rw [← List.drop_eq_getElem_cons ha, List.take_append_drop]
  have e2 : b = a.take j ++ b[j] :: b.drop (j + 1) := by rw [ht, ← List.drop_eq_getElem_cons hb, List.take_append_drop]
  have key : ∀ (x y : UInt8) (r s : List UInt8), x.toNat ≠ y.toNat → bytesBefore (x :: r) (y :: s) = decide (x.toNat < y.toNat) := by
    intro x y r s hn
    rw [Bool.eq_iff_iff, bb_cons, decide_eq_true_iff, UInt8.lt_iff_toNat_lt]
    constructor
    · rintro (h | h)
      · omega
      · exact absurd (by rw [h.1]) hn
    · intro h; exact .inl (by omega)
  have e3 : bytesBefore a b = bytesBefore (a.take j ++ a[j] :: a.drop (j + 1)) (a.take j ++ b[j] :: b.drop (j + 1)) := by rw [← e1, ← e2]
  rw [e3, bb_app, key _ _ _ _ hne]
theorem bb_end {a b : List UInt8} {j : Nat} (ha : j ≤ a.length) (hb : j ≤ b.length) (ht : a.take j = b.take j) (he : j = a.length ∨ j = b.length) : bytesBefore a b = decide (a.length < b.length) := by
  have e1 : bytesBefore a b = bytesBefore (a.take j ++ a.drop j) (a.take j ++ b.drop j) := by rw [List.take_append_drop, ht, List.take_append_drop]
  rw [e1, bb_app]
  rcases he with h | h
  · rw [List.drop_eq_nil_of_le (by omega)]
    cases hd : b.drop j with
    | nil =>
      have := congrArg List.length hd
      simp at this
      rw [decide_eq_false (by omega)]; rfl
    | cons y l =>
      have := congrArg List.length hd
      simp at this
      rw [decide_eq_true (by omega)]; rfl
  · rw [show b.drop j = [] from List.drop_eq_nil_of_le (by omega), decide_eq_false (by omega)]
    cases a.drop j <;> rfl
set_option maxRecDepth 100000 in
set_option maxHeartbeats 2000000 in
theorem ahead_ok (w : World) (a b : List UInt8) (hal : a.length ≤ 1000000) (hbl : b.length ≤ 1000000) : Calls Try.prog 50 #[.string (txt a), .string (txt b)] w fun e w' => e = .returned (.bool (bytesBefore a b)) ∧ ∃ k, w' = w.drewN k := by
  have za := txt_size' a
  have zb := txt_size' b
  go_enter Try.func50, Try.ntmps50
  go_wp2_with fail
  go_loopw [5] (fun x wr => ∃ j : Nat, x = .int .i64 j ∧ j ≤ a.length ∧ j ≤ b.length ∧ a.take j = b.take j ∧ ∃ k, wr = w.drewN k) (fun x _ => a.length - (intOf x).toNat)
  case atStart => exact ⟨0, rfl, by omega, by omega, rfl, 0, rfl⟩
  case round =>
    obtain ⟨j, rfl, hja, hjb, htk, k, rfl⟩ := hrel
    by_cases hla : j < a.length
    · have c1 : decide ((j : Int) < (a.length : Int)) = true := decide_eq_true (by omega)
      by_cases hlb : j < b.length
      · have c2 : decide ((j : Int) < (b.length : Int)) = true := decide_eq_true (by omega)
        obtain ⟨x, hx⟩ : ∃ x, ((txt a)[j]'(by rw [za]; exact hla)).toNat = x := ⟨_, rfl⟩
        obtain ⟨y, hy⟩ : ∃ y, ((txt b)[j]'(by rw [zb]; exact hlb)).toNat = y := ⟨_, rfl⟩
        have hx' : a[j].toNat = x := hx
        have hy' : b[j].toNat = y := hy
        by_cases hxy : x = y
        · subst hxy
          have hab : a[j] = b[j] := UInt8.toNat_inj.1 (by omega)
          have hn : a.take (j + 1) = b.take (j + 1) := by rw [List.take_succ_eq_append_getElem hla, List.take_succ_eq_append_getElem hlb, htk, hab]
          clear hab hx' hy'
          replace htk := Lib.hid htk
          replace hn := Lib.hid hn
          go_wp2_with fail
          go_quiet (fail)
          go_wp2_with fail
          go_roundw
          case rel => exact ⟨j + 1, by go_num, by omega, by omega, hn.out, _, rfl⟩
          case measure => simp [intOf]; omega
        · have hn := bb_at hla hlb htk (by omega)
          rw [hx', hy'] at hn
          have d1 : (x == y) = false := by simpa using hxy
          have d2 : ((x : Int) == (y : Int)) = false := by rw [beq_eq_false_iff_ne]; omega
          clear hx' hy'
          replace htk := Lib.hid htk
          replace hn := Lib.hid hn
          go_wp2_with fail
          go_quiet (fail)
          go_wp2_with fail
          go_quiet (fail)
          go_wp2_with fail
          go_ret
          exact ⟨by rw [hn.out]; rfl, _, by rw [World.drewN_drewN, World.drewN_drewN]⟩
      · have c2 : decide ((j : Int) < (b.length : Int)) = false := decide_eq_false (by omega)
        have hn := bb_end hja hjb htk (.inr (by omega))
        replace htk := Lib.hid htk
        replace hn := Lib.hid hn
        go_wp2_with fail
        go_ret
        exact ⟨by rw [hn.out]; rfl, _, rfl⟩
    · have c1 : decide ((j : Int) < (a.length : Int)) = false := decide_eq_false (by omega)
      have hn := bb_end hja hjb htk (.inl (by omega))
      replace htk := Lib.hid htk
      replace hn := Lib.hid hn
      go_wp2_with fail
      go_ret
      exact ⟨by rw [hn.out]; rfl, _, rfl⟩
/-- the reference's chart: the struct's block q; the row of its accounts lies at B or later -/
def RefAt (w : World) (q B : Nat) (C : List Ac) : Prop := ∃ A c, Blk w q 36 #[.slice A C.length c] ∧ OwA w A C.length c C ∧ ∀ k, fp A k → B ≤ k
theorem RefAt.mod {F : Nat → Prop} {w w' : World} {q B : Nat} {C : List Ac} (h : RefAt w q B C) (hm : Mod F w w') (hq : ¬ F q) (hB : ∀ k, B ≤ k → k < w.heap.size → ¬ F k) : RefAt w' q B C := by
  obtain ⟨A, c, h1, h2, h3⟩ := h
  exact ⟨A, c, h1.mod hm hq, Ow.mod h2 hm (fun k hk => hB k (h3 k hk) (Ow.lt h2 k hk)), h3⟩
theorem RefAt.mod0 {w w' : World} {q B : Nat} {C : List Ac} (h : RefAt w q B C) (hm : Mod none_ w w') : RefAt w' q B C := h.mod hm (fun h => h) (fun _ _ _ h => h)
theorem RefAt.cell {w : World} {q B : Nat} {C : List Ac} (h : RefAt w q B C) : ∃ A c, w.cell? ⟨q, 0, none⟩ = some (.slice A C.length c) ∧ RdA w A C.length C ∧ C.length ≤ c := by
  obtain ⟨A, c, h1, h2, _⟩ := h
  exact ⟨A, c, h1.cell_ rfl, Ow.rd h2, h2.2.1⟩
set_option maxRecDepth 100000 in
set_option maxHeartbeats 2000000 in
theorem rat_some (w : World) (q B : Nat) (C : List Ac) (s : List UInt8) (i : Nat) (h : RefAt w q B C) (hl : C.length ≤ 1000) (hst : StandsAt C s i) :
    Calls Try.prog 44 #[.pointer (some ⟨q, 0, none⟩), .string (txt s)] w fun e w' => e = .returned (.int .i64 i) ∧ w = w' := by
  obtain ⟨hi, hn, hb⟩ := hst
  obtain ⟨A, c, hcell, hrd, hc⟩ := h.cell
  obtain ⟨g, o, rfl, -⟩ := rda_get hrd hi (by omega)
  replace hrd := Lib.hid hrd
  replace hn := Lib.hid hn
  replace hb := Lib.hid hb
  replace h := Lib.hid h
  go_enter Try.func44, Try.ntmps44
  go_wp2_with fail
  go_loopw [5] (fun x wr => ∃ j : Nat, x = .int .i64 j ∧ j ≤ i ∧ SameW w wr) (fun x _ => i - (intOf x).toNat)
  case atStart => exact ⟨0, rfl, by omega, rfl⟩
  case round =>
    obtain ⟨j, rfl, hj, hw⟩ := hrel
    cases hw
    obtain ⟨g', o', hge, y1, -, -, -⟩ := rda_get hrd.out (show j < C.length by omega) (by omega)
    have hge1 : g = g' ∧ o = o' := by injection hge with h; injection h with h1 h2; exact ⟨h1, h2⟩
    obtain ⟨rfl, rfl⟩ := hge1
    clear hge
    by_cases hji : j = i
    · subst hji
      have hn2 := hn.out
      rw [hn2] at y1
      clear hn2
      go_wp2_with fail
      go_ret
      exact ⟨rfl, rfl⟩
    · have hn2 := hb.out j (by omega)
      have e1 : (C[j].n == s) = false := by simpa using hn2
      generalize C[j].n = yn at y1 e1
      clear hn2
      go_wp2_with fail
      go_roundw
      case rel => exact ⟨j + 1, by go_num, by omega, rfl⟩
      case measure => simp [intOf]; omega
set_option maxRecDepth 100000 in
set_option maxHeartbeats 2000000 in
theorem rat_none (w : World) (q B : Nat) (C : List Ac) (s : List UInt8) (h : RefAt w q B C) (hl : C.length ≤ 1000) (hno : getC C s = none) :
    Calls Try.prog 44 #[.pointer (some ⟨q, 0, none⟩), .string (txt s)] w fun e w' => e = .returned (.int .i64 (-1)) ∧ w = w' := by
  have hb := stands_none hno
  obtain ⟨A, c, hcell, hrd, hc⟩ := h.cell
  replace hrd := Lib.hid hrd
  replace hb := Lib.hid hb
  replace h := Lib.hid h
  replace hno := Lib.hid hno
  go_enter Try.func44, Try.ntmps44
  go_wp2_with fail
  go_loopw [5] (fun x wr => ∃ j : Nat, x = .int .i64 j ∧ j ≤ C.length ∧ SameW w wr) (fun x _ => C.length - (intOf x).toNat)
  case atStart => exact ⟨0, rfl, by omega, rfl⟩
  case round =>
    obtain ⟨j, rfl, hj, hw⟩ := hrel
    cases hw
    by_cases hlt : j < C.length
    · obtain ⟨g, o, rfl, y1, -, -, -⟩ := rda_get hrd.out hlt (by omega)
      have hn2 := hb.out j hlt
      have e1 : (C[j].n == s) = false := by simpa using hn2
      generalize C[j].n = yn at y1 e1
      clear hn2
      go_wp2_with fail
      go_roundw
      case rel => exact ⟨j + 1, by go_num, by omega, rfl⟩
      case measure => simp [intOf]; omega
    · go_wp2_with fail
      go_ret
      exact ⟨rfl, rfl⟩
end Go.Proofs.Ytaohgefpnndjcaa
/-
  The reference's wide numbers: the contracts of Of, Plus, Minus, Sum. No condition.
-/
namespace Go.Proofs.Ytaohgefpnndjcaa
set_option linter.unusedVariables false
open Go.RowKit
/-- A number in two halves. -/
def wd (x : Int) : Value := .agg #[.int .i64 (x / 18446744073709551616), .int .u64 (x % 18446744073709551616)]
theorem wd_eq {x h : Int} {l : Nat} (e : x = h * 18446744073709551616 + (l : Int)) (hl : l < 18446744073709551616) : wd x = .agg #[.int .i64 h, .int .u64 (l : Int)] := by
  unfold wd
  rw [show x / 18446744073709551616 = h by omega, show x % 18446744073709551616 = (l : Int) by omega]
def WPost (x : Int) (w : World) (e : Ending) (w' : World) : Prop := e = .returned (wd x) ∧ Mod none_ w w'
set_option maxRecDepth 100000 in
theorem of_ok (w : World) (a : Int) (ha : I64 a) : Calls Try.prog 59 #[.int .i64 a] w (WPost a w) := by
  obtain ⟨a1, a2⟩ := ha
  obtain ⟨u, hu⟩ : ∃ u : Nat, IntKind.u64.wrap a = (u : Int) := ⟨(IntKind.u64.wrap a).toNat, by rw [IntKind.wrap_u64]; omega⟩
  have hu2 := hu
  rw [IntKind.wrap_u64] at hu2
  have hm : ∀ o1 o2 : Obj, Mod none_ w ((w.alloc o1).alloc o2) := fun _ _ => ((Mod.refl none_ w).alloc _).alloc _
  by_cases h : a < 0
  · have e := Lib.hid (wd_eq (x := a) (h := -1) (l := u) (by omega) (by omega))
    clear hu2
    replace hm := Lib.hid hm
    go_enter Try.func59, Try.ntmps59
    go_wp2
    exact bodyPost_ret (v := .agg #[.int .i64 (-1), .int .u64 (u : Int)]) (by simp [results, Try.results59, go_sem]) rfl ⟨by rw [e.out], hm.out _ _⟩
  · have e := Lib.hid (wd_eq (x := a) (h := 0) (l := u) (by omega) (by omega))
    clear hu2
    replace hm := Lib.hid hm
    go_enter Try.func59, Try.ntmps59
    go_wp2
    exact bodyPost_ret (v := .agg #[.int .i64 0, .int .u64 (u : Int)]) (by simp [results, Try.results59, go_sem]) rfl ⟨by rw [e.out], hm.out _ _⟩
set_option maxRecDepth 100000 in
theorem plus_ok (w : World) (x y : Int) (h1 : -9223372036854775808 ≤ x / 18446744073709551616 + y / 18446744073709551616) (h2 : x / 18446744073709551616 + y / 18446744073709551616 + 1 ≤ 9223372036854775807) :
    Calls Try.prog 58 #[wd x, wd y] w (WPost (x + y) w) := by
  obtain ⟨xh, hxh⟩ : ∃ xh, xh = x / 18446744073709551616 := ⟨_, rfl⟩
  obtain ⟨yh, hyh⟩ : ∃ yh, yh = y / 18446744073709551616 := ⟨_, rfl⟩
  obtain ⟨xl, hxl⟩ : ∃ xl : Nat, (xl : Int) = x % 18446744073709551616 := ⟨(x % 18446744073709551616).toNat, by omega⟩
  obtain ⟨yl, hyl⟩ : ∃ yl : Nat, (yl : Int) = y % 18446744073709551616 := ⟨(y % 18446744073709551616).toNat, by omega⟩
  have ex : wd x = .agg #[.int .i64 xh, .int .u64 (xl : Int)] := by unfold wd; rw [hxh, hxl]
  have ey : wd y = .agg #[.int .i64 yh, .int .u64 (yl : Int)] := by unfold wd; rw [hyh, hyl]
  rw [ex, ey]
  rw [← hxh, ← hyh] at h1 h2
  clear ex ey
  by_cases hc : xl + yl < 18446744073709551616
  · obtain ⟨s, hs⟩ : ∃ s : Nat, s = xl + yl := ⟨_, rfl⟩
    have hw : IntKind.u64.wrap ((xl : Int) + (yl : Int)) = (s : Int) := by rw [IntKind.wrap_u64]; omega
    have e := Lib.hid (wd_eq (x := x + y) (h := xh + yh) (l := s) (by omega) (by omega))
    have hlt : ¬ s < xl := by omega
    clear hxh hyh hxl hyl hs hc
    go_enter Try.func58, Try.ntmps58
    go_wp2
    refine bodyPost_ret (v := .agg #[.int .i64 (xh + yh), .int .u64 (s : Int)]) (by simp [results, Try.results58, go_sem]) rfl ⟨by rw [e.out], ?_⟩
    (repeat (refine Mod.alloc ?_ _)); exact Mod.refl _ _
  · obtain ⟨s, hs⟩ : ∃ s : Nat, xl + yl = 18446744073709551616 + s := ⟨xl + yl - 18446744073709551616, by omega⟩
    have hw : IntKind.u64.wrap ((xl : Int) + (yl : Int)) = (s : Int) := by rw [IntKind.wrap_u64]; omega
    have e := Lib.hid (wd_eq (x := x + y) (h := xh + yh + 1) (l := s) (by omega) (by omega))
    have hlt : s < xl := by omega
    clear hxh hyh hxl hyl hs hc
    go_enter Try.func58, Try.ntmps58
    go_wp2
    refine bodyPost_ret (v := .agg #[.int .i64 (xh + yh + 1), .int .u64 (s : Int)]) (by simp [results, Try.results58, go_sem]) rfl ⟨by rw [e.out], ?_⟩
    (repeat (refine Mod.alloc ?_ _)); exact Mod.refl _ _
set_option maxRecDepth 100000 in
theorem minus_ok (w : World) (x : Int) (h1 : -9223372036854775808 < x / 18446744073709551616) (h2 : x / 18446744073709551616 ≤ 9223372036854775807) :
    Calls Try.prog 61 #[wd x] w (WPost (-x) w) := by
  obtain ⟨xh, hxh⟩ : ∃ xh, xh = x / 18446744073709551616 := ⟨_, rfl⟩
  obtain ⟨xl, hxl⟩ : ∃ xl : Nat, (xl : Int) = x % 18446744073709551616 := ⟨(x % 18446744073709551616).toNat, by omega⟩
  have ex : wd x = .agg #[.int .i64 xh, .int .u64 (xl : Int)] := by unfold wd; rw [hxh, hxl]
  rw [ex]
  rw [← hxh] at h1 h2
  clear ex
  by_cases hc : xl = 0
  · subst hc
    have e := Lib.hid (wd_eq (x := -x) (h := -xh) (l := 0) (by omega) (by omega))
    clear hxh hxl
    go_enter Try.func61, Try.ntmps61
    go_wp2
    refine bodyPost_ret (v := .agg #[.int .i64 (-xh), .int .u64 ((0 : Nat) : Int)]) (by simp [results, Try.results61, go_sem]) rfl ⟨by rw [e.out], ?_⟩
    (repeat (refine Mod.alloc ?_ _)); exact Mod.refl _ _
  · obtain ⟨s, hs⟩ : ∃ s : Nat, xl + s = 18446744073709551616 := ⟨18446744073709551616 - xl, by omega⟩
    have hw : IntKind.u64.wrap (-(xl : Int)) = (s : Int) := by rw [IntKind.wrap_u64]; omega
    have e := Lib.hid (wd_eq (x := -x) (h := -xh - 1) (l := s) (by omega) (by omega))
    clear hxh hxl hs
    go_enter Try.func61, Try.ntmps61
    go_wp2
    refine bodyPost_ret (v := .agg #[.int .i64 (-xh - 1), .int .u64 (s : Int)]) (by simp [results, Try.results61, go_sem]) rfl ⟨by rw [e.out], ?_⟩
    (repeat (refine Mod.alloc ?_ _)); exact Mod.refl _ _
theorem wrap64_in64 (x : Int) : I64 (wrap64 x) := by unfold I64 wrap64; omega
theorem sum_in {x h : Int} {l : Nat} (e : x = h * 18446744073709551616 + (l : Int)) (hl : l < 18446744073709551616) :
    (inI x = true → h = wrap64 (l : Int) / 18446744073709551616 ∧ wrap64 (l : Int) = x) ∧ (inI x = false → h ≠ wrap64 (l : Int) / 18446744073709551616) := by
  constructor
  · intro hi
    have := inI_yes.1 hi
    unfold wrap64
    omega
  · intro hi he
    have : ¬ (inI x = true) := by rw [hi]; simp
    rw [inI_yes] at this
    unfold wrap64 at he
    omega
set_option maxRecDepth 100000 in
set_option maxHeartbeats 2000000 in
theorem sum_ok (w : World) (x : Int) (h1 : -9223372036854775808 ≤ x / 18446744073709551616) (h2 : x / 18446744073709551616 ≤ 9223372036854775807) :
    Calls Try.prog 60 #[wd x] w fun e w' => e = .returned (.tuple #[.int .i64 (sumR x).1, .int .i64 ((sumR x).2 : Int)]) ∧ Mod none_ w w' := by
  obtain ⟨xh, hxh⟩ : ∃ xh, xh = x / 18446744073709551616 := ⟨_, rfl⟩
  obtain ⟨xl, hxl⟩ : ∃ xl : Nat, (xl : Int) = x % 18446744073709551616 := ⟨(x % 18446744073709551616).toNat, by omega⟩
  have ex : wd x = .agg #[.int .i64 xh, .int .u64 (xl : Int)] := by unfold wd; rw [hxh, hxl]
  rw [ex]
  obtain ⟨s1, s2⟩ := sum_in (x := x) (h := xh) (l := xl) (by omega) (by omega)
  rw [← hxh] at h1 h2
  have hw := wrap64_in64 (xl : Int)
  obtain ⟨y, hy⟩ : ∃ y, wrap64 (xl : Int) = y := ⟨_, rfl⟩
  rw [hy] at s1 s2 hw
  have hof : ∀ W, Calls Try.prog 59 #[.int .i64 y] W (WPost y W) := fun W => of_ok W y hw
  obtain ⟨yh, hyh⟩ : ∃ yh, yh = y / 18446744073709551616 := ⟨_, rfl⟩
  obtain ⟨yl, hyl⟩ : ∃ yl : Nat, (yl : Int) = y % 18446744073709551616 := ⟨(y % 18446744073709551616).toNat, by omega⟩
  have ey : wd y = .agg #[.int .i64 yh, .int .u64 (yl : Int)] := by unfold wd; rw [hyh, hyl]
  rw [← hyh] at s1 s2
  clear ex
  replace hof := Lib.hid hof
  replace ey := Lib.hid ey
  have hyl2 : xl = yl := by unfold wrap64 at hy; omega
  have hy3 : IntKind.i64.wrap (xl : Int) = y := by rw [← hy, IntKind.wrap_i64]; unfold wrap64; rfl
  subst hyl2
  have hb : Blk (w.alloc (.cells #[.int .i64 xh, .int .u64 (xl : Int)] 85)) w.heap.size 85 #[.int .i64 xh, .int .u64 (xl : Int)] := Blk.new w _ _
  clear hxh hxl hyh hyl
  have hs : (xh == yh) = inI x := by
    cases hi : inI x with
    | true => simp [(s1 hi).1]
    | false => simp [s2 hi]
  have hs' : (xh != yh) = !inI x := by rw [← hs]; rfl
  have hy2 : Hid (inI x = true → y = x) := Lib.hid fun hi => (s1 hi).2
  clear s1 s2
  replace hb := Lib.hid hb
  cases hi : inI x
  all_goals
    rw [hi] at hs hs'
    have hr := Lib.hid hi
    clear hi
    go_enter Try.func60, Try.ntmps60
    go_wp2_with fail
    go_region_with (go_at_call 59; (with_reducible refine (hof.out _).mono ?_); rintro e w1 ⟨rfl, hm1⟩; rw [ey.out]; dsimp only; have hb1 := Blk.mod (hb.out.drew) hm1 (fun hh => hh); have c0 := hb1.cell 0; have c1 := hb1.cell 1; replace hm1 := Lib.hid hm1; replace hb1 := Lib.hid hb1)
    all_goals
      go_wp2_with fail
      go_ret2
      refine ⟨?_, ((Mod.refl none_ w).alloc _).drew.trans hm1.out⟩
      first | (rw [sumR_no hr.out]; rfl) | (rw [sumR_yes hr.out, ← hy2.out hr.out]; rfl)
end Go.Proofs.Ytaohgefpnndjcaa
/-
  'make' of a row of one-cell elements, and 'copy' that fills a whole row. No condition.
-/
namespace Go.Proofs.Ytaohgefpnndjcaa
set_option linter.unusedVariables false
open Go.RowKit
theorem copy_all {P : Program} {w : World} {ops : Array Oper} {rest : List Oper} {o : Oper} {a : Act} {Q : Exit → Act → World → Prop} (hgd : o.guard = none) (d s : Operand) (dT sT elem : TypeId)
    (ho : o.op = .call { callee := .builtin .copy, args := #[d, s], argTypes := #[dT, sT] }) (hu : P.underlying dT = some (.slice elem)) (hsz : (P.info? elem).map (·.size) = some 1)
    {g n c1 c2 : Nat} {S : Option Addr} {xs : List Value} {cur : Array Value} (hd : a.eval d = .slice (some ⟨g, 0, none⟩) n c1) (hs : a.eval s = .slice S n c2) (hg : Blk w g elem cur) (hcur : cur.size = n) (hn : n ≤ maxLen)
    (hr : Rd w 1 S n xs) (h1 : ∀ u ∈ xs, u.oneCell' = true)
    (h : ∀ w', Ow w' elem 1 (some ⟨g, 0, none⟩) n n xs → Mod (fun k => k = g) w w' → wpList P ops Q rest (a.put o.dst (goInt n)) w') : wpList P ops Q (o :: rest) a w := by
  have hx : xs.length = n := by have := hr.1; omega
  rcases Nat.eq_zero_or_pos n with h0 | h0
  · subst h0
    refine wpList_copy_nothing hgd d s dT sT ho elem hu hsz _ _ _ _ _ _ hd hs (by simp) ?_
    have : xs = [] := List.eq_nil_of_length_eq_zero hx
    subst this
    exact h w ⟨by simp, by omega, by omega, .inr ⟨g, cur, rfl, hg, by omega, by simp⟩⟩ (Mod.refl _ w)
  · obtain ⟨ad, rfl, hc⟩ := hr.2 h0
    have hx2 := hx
    refine wpList_copy_own hgd d s dT sT ho elem hu hsz g 0 n c1 ad n c2 hd hs cur elem hg xs (by simp [hx]) hc (by omega) h1 ?_
    have e : (cur.toList.take 0 ++ (xs ++ cur.toList.drop (0 + xs.length))) = xs := by
      rw [List.drop_eq_nil_of_le (by simp; omega)]; simp
    rw [e, hx]
    refine h _ ⟨by omega, by omega, by omega, .inr ⟨g, xs.toArray, rfl, setRow_heap w g cur _ elem _ hg, by simp [hx], by simp [← hx]⟩⟩ ⟨rfl, rfl, rfl, by simp, fun k _ hk => setRow_other w g k _ (fun e => hk e)⟩
/-- 'make([]T, n)' as a rule of the walk. -/
theorem make_run {P : Program} (w : World) (t e : TypeId) (z : Value) (bytes n : Nat) (ht : P.underlying t = some (.slice e)) (hinfo : (P.info? e).map (fun i => (i.zero, i.size, i.bytes)) = some (some z, 1, bytes)) (hz1 : z.cells = #[z])
    (hbytes : bytes * n ≤ 281474976710656) (h63 : n ≤ 9223372036854775807) :
    (Instr.makeSlice t (.int .i64 (n : Int)) (.int .i64 (n : Int))).run P w = .ok (.slice (some ⟨w.heap.size, 0, none⟩) n n) (w.alloc (.cells (madeCells #[z] n) e)) :=
  run_make_row' t e z bytes ht hinfo hz1 .i64 .i64 n hbytes h63 w
end Go.Proofs.Ytaohgefpnndjcaa
/-
  The contract of coins.Share. No condition.
-/
namespace Go.Proofs.Ytaohgefpnndjcaa
set_option linter.unusedVariables false
open Go.RowKit
/-- The parts of a sum: none of them more than 1 apart, the greater ones first. -/
def part (a : Int) (n i : Nat) : Int := a / (n : Int) + if (i : Int) < a % (n : Int) then 1 else 0
def shareL (a : Int) (n : Nat) : List Int := (List.range n).map (part a n)
theorem i64size : (Try.prog.info? 2).map (·.size) = some 1 := by kernel_rfl
def SharePost (w : World) (a parts : Int) (e : Ending) (w' : World) : Prop :=
  (¬ (1 ≤ parts ∧ parts ≤ 100) ∧ e = .returned (.tuple #[.slice none 0 0, .int .i64 1]) ∧ w = w') ∨
  (∃ (n : Nat) (A : Option Addr) (c : Nat), parts = (n : Int) ∧ 1 ≤ n ∧ n ≤ 100 ∧ e = .returned (.tuple #[.slice A n c, .int .i64 0]) ∧ OwI w' A n c (shareL a n) ∧ Fresh w A ∧ Mod none_ w w')
theorem tdiv_facts (a : Int) (n : Nat) (ha : I64 a) (h1 : 1 ≤ n) : ∃ q r : Int, a.tdiv (n : Int) = q ∧ a.tmod (n : Int) = r ∧ -9223372036854775808 ≤ q ∧ q ≤ 9223372036854775807 ∧ -(n : Int) < r ∧ r < (n : Int) ∧
    (r < 0 → a / (n : Int) = q - 1 ∧ a % (n : Int) = r + (n : Int) ∧ -9223372036854775808 ≤ q - 1) ∧ (0 ≤ r → a / (n : Int) = q ∧ a % (n : Int) = r) := by
  obtain ⟨a1, a2⟩ := ha
  have hn : (0 : Int) < (n : Int) := by omega
  have e := Int.tmod_add_mul_tdiv a (n : Int)
  have f := Int.emod_add_mul_ediv a (n : Int)
  have m0 := Int.emod_nonneg a (b := (n : Int)) (by omega)
  have m1 := Int.emod_lt_of_pos a hn
  rcases Int.lt_or_le a 0 with hneg | hpos
  · have e2 : a.tdiv (n : Int) = -((-a) / (n : Int)) := by
      rw [show a = -(-a) by omega, Int.neg_tdiv, Int.tdiv_eq_ediv_of_nonneg (by omega)]; simp
    have e3 : a.tmod (n : Int) = -((-a) % (n : Int)) := by
      rw [show a = -(-a) by omega, Int.neg_tmod, Int.tmod_eq_emod_of_nonneg (by omega)]; simp
    have g := Int.emod_add_mul_ediv (-a) (n : Int)
    have n0 := Int.emod_nonneg (-a) (b := (n : Int)) (by omega)
    have n1 := Int.emod_lt_of_pos (-a) hn
    obtain ⟨Q, hQ⟩ : ∃ Q, Q = (-a) / (n : Int) := ⟨_, rfl⟩
    obtain ⟨R, hR⟩ : ∃ R, R = (-a) % (n : Int) := ⟨_, rfl⟩
    rw [← hQ] at e2 g
    rw [← hR] at e3 g n0 n1
    have hQ0 : 0 ≤ Q := by rw [hQ]; exact Int.ediv_nonneg (by omega) (by omega)
    have hQa : Q ≤ -a := by rw [hQ]; exact Int.ediv_le_self _ (by omega)
    refine ⟨-Q, -R, e2, e3, by omega, by omega, by omega, by omega, fun hr => ?_, fun hr => ?_⟩
    · have hd : a = ((n : Int) - R) + (n : Int) * (-Q - 1) := by rw [Int.mul_sub, Int.mul_neg]; omega
      have h3 : a / (n : Int) = -Q - 1 := by
        rw [hd, Int.add_mul_ediv_left _ _ (by omega), Int.ediv_eq_zero_of_lt (by omega) (by omega)]; omega
      have h4 : a % (n : Int) = -R + (n : Int) := by
        rw [hd, Int.add_mul_emod_self_left, Int.emod_eq_of_lt (by omega) (by omega)]; omega
      have h2n : 2 ≤ (n : Int) := by omega
      have hm : 2 * Q ≤ (n : Int) * Q := Int.mul_le_mul_of_nonneg_right h2n hQ0
      exact ⟨h3, h4, by omega⟩
    · have hR0 : R = 0 := by omega
      subst hR0
      have hd : a = 0 + (n : Int) * (-Q) := by rw [Int.mul_neg]; omega
      have h3 : a / (n : Int) = -Q := by
        rw [hd, Int.add_mul_ediv_left _ _ (by omega)]; simp
      have h4 : a % (n : Int) = 0 := by
        rw [hd, Int.add_mul_emod_self_left]; simp
      exact ⟨h3, by omega⟩
  · have e2 : a.tdiv (n : Int) = a / (n : Int) := Int.tdiv_eq_ediv_of_nonneg hpos
    have e3 : a.tmod (n : Int) = a % (n : Int) := Int.tmod_eq_emod_of_nonneg hpos
    have hQ0 : 0 ≤ a / (n : Int) := Int.ediv_nonneg hpos (by omega)
    have hQa : a / (n : Int) ≤ a := Int.ediv_le_self _ (by omega)
    exact ⟨_, _, e2, e3, by omega, by omega, by omega, by omega, fun hr => by omega, fun _ => ⟨rfl, rfl⟩⟩
def rowAt (a : Int) (n j : Nat) : List Int := (List.range n).map fun i => if i < j then part a n i else 0
theorem rowAt_len (a : Int) (n j : Nat) : (rowAt a n j).length = n := by simp [rowAt]
theorem rowAt_zero (a : Int) (n : Nat) : (madeCells #[Value.int .i64 0] n).toList = ivs (rowAt a n 0) := by
  apply List.ext_getElem
  · simp [size_madeCells, ivs, rowAt]
  · intro i h1 h2
    have e : i % 1 = 0 := Nat.mod_one i
    simp [madeCells, ivs, rowAt, e]
theorem rowAt_all (a : Int) (n : Nat) : rowAt a n n = shareL a n := by
  unfold rowAt shareL
  apply List.map_congr_left
  intro i hi
  rw [if_pos (List.mem_range.1 hi)]
theorem rowAt_next (a : Int) (n j : Nat) (hj : j < n) : (rowAt a n j).set j (part a n j) = rowAt a n (j + 1) := by
  apply List.ext_getElem
  · simp [rowAt]
  · intro i h1 h2
    simp only [rowAt, List.length_map, List.length_range] at h2
    rw [List.getElem_set]
    simp only [rowAt, List.getElem_map, List.getElem_range]
    by_cases h : j = i
    · subst h; simp
    · rw [if_neg h]
      by_cases h3 : i < j
      · rw [if_pos h3, if_pos (by omega)]
      · rw [if_neg h3, if_neg (by omega)]
theorem ivs_set (l : List Int) (k : Nat) (b : Int) : ivs (l.set k b) = (ivs l).set k (.int .i64 b) := by simp [ivs, List.map_set]
def ShRel (w : World) (a : Int) (n g j : Nat) (wr : World) : Prop := OwI wr (some ⟨g, 0, none⟩) n n (rowAt a n j) ∧ Mod none_ w wr
end Go.Proofs.Ytaohgefpnndjcaa
