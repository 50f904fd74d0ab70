import Derived.Test.YtimlfdihodoolaaGreatZp13
import Derived.Test.YtimlfdihodoolaaGreatZp9
import Derived.Test.YtimlfdihodoolaaGreatZp3
import Derived.Test.YtimlfdihodoolaaGreatZp8
import Derived.Test.YtimlfdihodoolaaGreatZp5
import Derived.Test.YtimlfdihodoolaaGreatZp7
import Derived.BigQuiet
import Derived.Deep.LoopGhost
/-
  The reference's reader: fail, Num, Range, Text: what they tell is what the program's reader tells. No condition.
-/
namespace Go.Proofs.YtimlfdihodoolaaGreat
set_option linter.unusedVariables false
set_option linter.unusedSimpArgs false
open Go.RowKit
/-- The reader in block g has the bytes l left, and the error e; its rest lies in block B. -/
def Rdr2 (w : World) (g B : Nat) (l : List UInt8) (e : Nat) : Prop :=
  ∃ A n c, Blk w g 63 #[.slice A n c, .int .i64 (e : Int)] ∧ RdB w A n l ∧ n ≤ c ∧ c ≤ 9223372036854775807 ∧ (0 < n → ∀ k, fp A k → k = B) ∧ g ≠ B
theorem Rdr2.mod {w w' : World} {F : Nat → Prop} {g B : Nat} {l : List UInt8} {e : Nat} (h : Rdr2 w g B l e) (hm : Mod F w w') (h1 : ¬ F g) (h2 : ¬ F B) : Rdr2 w' g B l e := by
  obtain ⟨A, n, c, a1, a2, a3, a4, a5, a6⟩ := h
  exact ⟨A, n, c, a1.mod hm h1, Rd.mod' a2 hm (fun h0 k hk => by rw [a5 h0 k hk]; exact h2), a3, a4, a5, a6⟩
theorem Rdr2.mod0 {w w' : World} {g B : Nat} {l : List UInt8} {e : Nat} (h : Rdr2 w g B l e) (hm : Mod none_ w w') : Rdr2 w' g B l e := h.mod hm (fun hh => hh) (fun hh => hh)
theorem Rdr2.empty {w : World} {g B : Nat} {e : Nat} (h : Blk w g 63 #[.slice none 0 0, .int .i64 (e : Int)]) (hB : g ≠ B) : Rdr2 w g B [] e :=
  ⟨none, 0, 0, h, Rd.none_, by omega, by omega, fun h0 => absurd h0 (by omega), hB⟩
theorem Rdr2.lt {w : World} {g B : Nat} {l : List UInt8} {e : Nat} (h : Rdr2 w g B l e) : g < w.heap.size := by
  obtain ⟨A, n, c, a1, _⟩ := h
  exact a1.lt
def FailPost2 (w : World) (g B e : Nat) (en : Ending) (w' : World) : Prop := en = .returned (.int .i64 (e : Int)) ∧ Rdr2 w' g B [] e ∧ Mod (only g) w w'
set_option maxRecDepth 100000 in
theorem fail_ok2 (w : World) (g B e : Nat) (a b : Value) (h : Blk w g 63 #[a, b]) (hB : g ≠ B) : Calls Tryz.prog 46 #[.pointer (some ⟨g, 0, none⟩), .int .i64 (e : Int)] w (FailPost2 w g B e) := by
  obtain ⟨h1, h2, h3, h4⟩ := h.two
  replace h := Lib.hid h
  go_enter Tryz.func46, Tryz.ntmps46
  go_wp2
  go_ret
  exact ⟨rfl, Rdr2.empty ((h.out.set_ 0 _).set_ 1 _) hB, ((Mod.refl _ w).set_only 0 _).set_only 1 _⟩
def RPost2 (w : World) (g B : Nat) (r : Int × Nat × List UInt8) (en : Ending) (w' : World) : Prop :=
  en = .returned (.tuple #[.int .i64 r.1, .int .i64 (r.2.1 : Int)]) ∧ Rdr2 w' g B r.2.2 r.2.1 ∧ Mod (only g) w w'
theorem Rdr2.blk {w : World} {g B : Nat} {l : List UInt8} {e : Nat} (h : Rdr2 w g B l e) : ∃ a b, Blk w g 63 #[a, b] ∧ g ≠ B := by
  obtain ⟨A, n, c, a1, _, _, _, _, a6⟩ := h
  exact ⟨_, _, a1, a6⟩
theorem fail_r2 (w : World) (g B e e0 : Nat) (l : List UInt8) (h : Rdr2 w g B l e0) : Calls Tryz.prog 46 #[.pointer (some ⟨g, 0, none⟩), .int .i64 (e : Int)] w (FailPost2 w g B e) := by
  obtain ⟨a, b, h1, h2⟩ := h.blk
  exact fail_ok2 w g B e a b h1 h2
theorem rest_gen2 {w : World} {g B : Nat} {A : Option Addr} {n c : Nat} {l : List UInt8} {k q d : Nat} (hb : Blk w g 63 #[.slice A n c, .int .i64 ((0 : Nat) : Int)]) (hr : RdB w A l.length l)
    (hA : 0 < l.length → ∀ j, fp A j → j = B) (hB : g ≠ B) (hl : l.length = k + q) (hqd : q ≤ d) (hc : k + d ≤ 9223372036854775807) (A' : Option Addr) (m c' : Nat) (h1 : A' = A ∧ d = 0 ∨ A' = A.map (fun x => x.add k)) (h2 : m = q) (h3 : c' = d) :
    Rdr2 (w.setCell ⟨g, 0, none⟩ (.slice A' m c')) g B (l.drop k) 0 := by
  subst h2 h3
  have hlt : 0 < m → ∀ j, fp A' j → j = B := by
    rintro h0 j ⟨a, ha, rfl⟩
    rcases h1 with ⟨h, _⟩ | h
    · rw [h] at ha; exact hA (by omega) _ ⟨a, ha, rfl⟩
    · rw [h] at ha
      cases A with
      | none => cases ha
      | some x => cases ha; rw [block_of_add]; exact hA (by omega) _ ⟨x, rfl, rfl⟩
  have h4 : RdB w A' m (l.drop k) := by
    rcases h1 with ⟨rfl, h0⟩ | rfl
    · have : m = 0 := by omega
      subst this
      rw [List.drop_eq_nil_of_le (by omega)]
      exact ⟨by simp [bvs], fun h => by omega⟩
    · have := rdb_drop hr (k := k) (c := l.length + k + 1) (by omega) (by omega)
      rw [if_neg (by omega), show l.length - k = m by omega] at this
      exact this
  refine ⟨A', m, c', hb.set_ 0 _, Rd.mod' h4 ((Mod.refl (only g) w).set_only 0 _) ?_, hqd, by omega, hlt, hB⟩
  intro h0 j hj hg
  exact hB (hg ▸ hlt h0 j hj)
theorem mVal_step (l : List UInt8) {j n : Nat} (hj : j < n) (hn : n ≤ l.length) : mVal ((l.take n).drop j) = l[j].toNat % 128 + 128 * mVal ((l.take n).drop (j + 1)) := by
  have h1 : j < (l.take n).length := by rw [List.length_take]; omega
  rw [List.drop_eq_getElem_cons h1, mVal, List.getElem_take]
def mv64 (l : List UInt8) : Nat := mVal l % 18446744073709551616
theorem mv64_lt (l : List UInt8) : mv64 l < 18446744073709551616 := by unfold mv64; omega
theorem mv64_step (l : List UInt8) {j n : Nat} (hj : j < n) (hn : n ≤ l.length) : mv64 ((l.take n).drop j) = (l[j].toNat % 128 + 128 * mv64 ((l.take n).drop (j + 1))) % 18446744073709551616 := by
  unfold mv64; rw [mVal_step l hj hn]; omega
theorem take_all_eq {a b : List UInt8} (hl : a.length = b.length) (h : ∀ i (h1 : i < a.length) (h2 : i < b.length), a[i] = b[i]) : a = b := List.ext_getElem hl fun i h1 h2 => h i h1 h2
set_option maxRecDepth 100000 in
set_option maxHeartbeats 4000000 in
theorem rnum_ok2 (w : World) (g B e : Nat) (l : List UInt8) (h : Rdr2 w g B l e) : Calls Tryz.prog 47 #[.pointer (some ⟨g, 0, none⟩)] w (RPost2 w g B (rn l e)) := by
  have hall := Lib.hid h
  obtain ⟨A, n, c, hb, hr, hnc, hc, hA, hB⟩ := h
  obtain ⟨h1, h2, h3, h4⟩ := hb.two
  have hl := hr.len
  subst hl
  replace hr := Lib.hid hr
  replace hb := Lib.hid hb
  replace hA := Lib.hid hA
  by_cases he : e = 0
  case neg =>
    have he1 : ((e : Int) != 0) = true := by simp; omega
    have hrn : rn l e = (0, e, l) := by unfold rn; rw [if_pos he]
    rw [hrn]
    clear hrn
    replace he := Lib.hid he
    go_enter Tryz.func47, Tryz.ntmps47
    go_wp2_with (go_quiet (fail))
    go_ret2
    exact ⟨rfl, hall.out.mod0 ((Mod.refl none_ w).drewN _), ((Mod.refl _ w).drewN _)⟩
  case pos =>
  subst he
  have hrn := r2n_eq l
  rw [← hrn]
  clear hrn
  obtain ⟨rst, hrst⟩ : ∃ rst, r2n l = rst := ⟨_, rfl⟩
  rw [hrst]
  replace hrst := Lib.hid hrst
  have kF := Lib.hid (fun e' : Nat => fail_r2 w g B e' 0 l hall.out)
  go_enter Tryz.func47, Tryz.ntmps47
  go_wp2_with fail
  go_loopg [4] l.length (fun gk v wr => ∃ k : Nat, v = .int .i64 (k : Int) ∧ k + gk = l.length ∧ k ≤ 10 ∧ (∀ j (h : j < l.length), j < k → 128 ≤ l[j].toNat) ∧ w = wr)
  case atStart => exact ⟨0, rfl, by omega, by omega, fun j _ hj => absurd hj (Nat.not_lt_zero _), rfl⟩
  case round =>
    obtain ⟨k, rfl, hkl, hk10, hhi, rfl⟩ := hrel
    by_cases hlt : k < l.length
    case neg =>
      obtain rfl : k = l.length := by omega
      have hres : r2n l = (0, 4, []) := by
        unfold r2n
        rw [nHi_of 10 l l.length hk10 (Nat.le_refl _) hhi (.inr (.inl rfl)), if_pos rfl]
      obtain rfl : rst = (0, 4, []) := by rw [← hrst.out]; exact hres
      clear hres hhi
      have hz : ((l.length : Int) < (l.length : Int)) = False := by simp
      go_wp2_with fail
      refine (kF.out 4).mono ?_
      rintro en w1 ⟨rfl, hR, hm⟩
      dsimp only
      replace hR := Lib.hid hR
      replace hm := Lib.hid hm
      go_wp2_with fail
      go_ret2
      exact ⟨rfl, hR.out, hm.out⟩
    case pos =>
    obtain ⟨b, o, rfl, hcell⟩ := rdb_form hr.out (by omega)
    have hx := hcell k hlt
    have hx8 := l[k].toNat_lt
    by_cases h10 : k = 10
    case pos =>
      subst h10
      have hres : r2n l = (0, 3, []) := by
        unfold r2n
        rw [nHi_of 10 l 10 (Nat.le_refl _) (by omega) hhi (.inl rfl), if_neg (by omega), if_pos rfl]
      obtain rfl : rst = (0, 3, []) := by rw [← hrst.out]; exact hres
      clear hres hhi hcell
      have hne : ((10 : Int) == (l.length : Int)) = false := by simp; omega
      generalize l[10].toNat = x at *
      go_wp2_with fail
      refine (kF.out 3).mono ?_
      rintro en w1 ⟨rfl, hR, hm⟩
      dsimp only
      replace hR := Lib.hid hR
      replace hm := Lib.hid hm
      go_wp2_with fail
      go_ret2
      exact ⟨rfl, hR.out, hm.out⟩
    case neg =>
    have hk9 : k ≤ 9 := by omega
    by_cases hge : 128 ≤ l[k].toNat
    case pos =>
      have hhi' : ∀ j (h : j < l.length), j < k + 1 → 128 ≤ l[j].toNat := fun j h hj => by
        by_cases e1 : j = k
        · subst e1; exact hge
        · exact hhi j h (by omega)
      generalize l[k].toNat = x at *
      have hge2 : (128 : Int) ≤ (x : Int) := by omega
      clear hcell hhi
      replace hhi' := Lib.hid hhi'
      go_wp2_with fail
      go_roundg (gk - 1)
      case measure => omega
      case rel => exact ⟨k + 1, by go_num, by omega, by omega, hhi'.out, rfl⟩
    case neg =>
    -- the number's last byte
    have hnH : nHi 10 l = k := nHi_of 10 l k (by omega) (by omega) hhi (.inr (.inr ⟨hlt, by omega⟩))
    have hne : ((k : Int) == (l.length : Int)) = false := by simp; omega
    have hne2 : ((k : Int) == 10) = false := by simp; omega
    have hres : rst = if vb (mv64 (l.take (k + 1))) = l.take (k + 1) then (unzig (mv64 (l.take (k + 1))), 0, l.drop (k + 1)) else (0, 3, []) := by
      rw [← hrst.out]
      unfold r2n mv64
      rw [hnH, if_neg (by omega), if_neg h10]
    have hge2 : ¬ (128 : Int) ≤ (l[k].toNat : Int) := by omega
    have hx' := hx
    generalize l[k].toNat = x0 at hx' hge2
    clear hx8 hge hx hnH hhi
    replace hcell := Lib.hid hcell
    replace hres := Lib.hid hres
    go_wp2_with fail
    clear hx' hge2 hne hne2
    have hlk : k + 1 ≤ l.length := by omega
    go_loopg [5, 6] (k + 1) (fun gk v y wr2 => ∃ (q : Nat) (y0 : Int), v = .int .u64 (q : Int) ∧ y = .int .i64 y0 ∧ y0 = (gk : Int) - 1 ∧ q = mv64 ((l.take (k + 1)).drop gk) ∧ gk ≤ k + 1 ∧ w = wr2)
    case atStart =>
      refine ⟨0, (k : Int), rfl, rfl, by omega, ?_, by omega, rfl⟩
      rw [List.drop_of_length_le (by rw [List.length_take]; omega)]
      rfl
    case round =>
      obtain ⟨q, y0, rfl, rfl, hy0, hq, hgk1, rfl⟩ := hrel
      have hq64 : q < 18446744073709551616 := by rw [hq]; exact mv64_lt _
      rcases gk with _ | j
      case succ =>
        obtain rfl : y0 = (j : Int) := by omega
        clear hy0
        have hjl : j < l.length := by omega
        have hx := hcell.out j hjl
        have hx8 := l[j].toNat_lt
        have hq2 := mv64_step l (j := j) (n := k + 1) (by omega) hlk
        generalize l[j].toNat = x at *
        rw [← hq] at hq2
        obtain ⟨q', hq'⟩ : ∃ q', q' = (x % 128 + 128 * q) % 18446744073709551616 := ⟨_, rfl⟩
        have hnx : q' = mv64 ((l.take (k + 1)).drop j) := by rw [hq2, hq']
        have r1 : IntKind.u64.wrap ((x : Int) % 128) = (x : Int) % 128 := by rw [IntKind.wrap_u64]; omega
        have r2 : IntKind.u64.wrap (IntKind.u64.wrap ((q : Int) * 128) + (x : Int) % 128) = (q' : Int) := by rw [IntKind.wrap_u64, IntKind.wrap_u64, hq']; omega
        clear hq2 hq'
        replace hq := Lib.hid hq
        replace hnx := Lib.hid hnx
        replace hq64 := Lib.hid hq64
        replace hgk1 := Lib.hid hgk1
        go_wp2_with fail
        go_roundg j
        case measure => omega
        case rel => exact ⟨_, (j : Int) - 1, rfl, by go_num, rfl, hnx.out, by have := hgk1.out; omega, rfl⟩
      case zero =>
      obtain rfl : y0 = -1 := by omega
      clear hy0
      rw [List.drop_zero] at hq
      have hzu := zig_unzig q
      obtain ⟨v0, hv0⟩ : ∃ v0, v0 = unzig q := ⟨_, rfl⟩
      have hv0b := unzig_in hq64
      rw [← hv0] at hv0b hzu
      have kN := r2num_ok w v0 hv0b.1 hv0b.2
      unfold NumPost at kN
      rw [hzu] at kN
      have hres2 := hres.out
      rw [← hq, ← hv0] at hres2
      have hp2 : q % 2 = 0 → v0 = ((q / 2 : Nat) : Int) := fun h => by rw [hv0]; unfold unzig; rw [if_pos h]
      have hp3 : ¬ q % 2 = 0 → v0 = -1 - ((q / 2 : Nat) : Int) := fun h => by rw [hv0]; unfold unzig; rw [if_neg h]; omega
      clear hq hres hv0 hzu
      have hrest : ∀ w1 A2 k2 c2, OwB w1 5 A2 k2 c2 (vb q) → Fresh w A2 → Mod none_ w w1 → k2 ≤ 10 → True := fun _ _ _ _ _ _ _ _ => trivial
      clear hrest
      replace hres2 := Lib.hid hres2
      replace kN := Lib.hid kN
      replace hq64 := Lib.hid hq64
      by_cases hodd : q % 2 = 0
      case pos =>
        have e0 := hp2 hodd
        have e1 : wrap64 ((q : Int) / 2) = v0 := by rw [IntWalk.wrap64_in _ ⟨by omega, by omega⟩]; omega
        have e2 : ((q : Int) % 2 == 1) = false := by simp; omega
        have e3 : (q : Int) / 2 = v0 := by omega
        clear hp2 hp3
        replace hodd := Lib.hid hodd
        replace e0 := Lib.hid e0
        go_wp2_with fail
        refine kN.out.mono ?_
        rintro en w1 ⟨A2, k2, c2, rfl, ho2, hf2, hm2, hk2⟩
        dsimp only
        have hl2 := ho2.len
        have hall1 := Lib.hid (hall.out.mod0 hm2)
        have kF1 := Lib.hid (fun e' : Nat => fail_r2 w1 g B e' 0 l hall1.out)
        have hb1 := hb.out.mod hm2 (fun h => h)
        obtain ⟨i1, i2, i3, i4⟩ := hb1.two
        have hr1 := Lib.hid (Rd.mod0 hr.out hm2 : RdB w1 (some ⟨b, o, none⟩) l.length l)
        have hcell1 : Hid (∀ i (h : i < l.length), w1.cell? ⟨b, o + i, none⟩ = some (.int .u8 (l[i].toNat : Int))) := Lib.hid (fun i h => hm2.cell_some (hcell.out i h) (fun h => h))
        by_cases hkk : k2 = k + 1
        case neg =>
          have hno : rst = (0, 3, []) := by
            rw [hres2.out, if_neg]
            intro h
            have := congrArg List.length h
            rw [hl2, List.length_take] at this
            omega
          subst hno
          have hkk2 : ((k2 : Int) != (k : Int) + 1) = true := by simp; omega
          replace ho2 := Lib.hid ho2
          replace hf2 := Lib.hid hf2
          replace hm2 := Lib.hid hm2
          replace hkk := Lib.hid hkk
          replace hl2 := Lib.hid hl2
          replace hb1 := Lib.hid hb1
          go_wp2_with fail
          refine (kF1.out 3).mono ?_
          rintro en w2 ⟨rfl, hR, hm⟩
          dsimp only
          have hM := Lib.hid (hm2.out.any (only g) |>.trans hm)
          replace hR := Lib.hid hR
          replace hm := Lib.hid hm
          go_wp2_with fail
          go_ret2
          exact ⟨rfl, hR.out, hM.out⟩
        case pos =>
        subst hkk
        have hkk2 : (((k + 1 : Nat) : Int) != (k : Int) + 1) = false := by simp
        obtain ⟨b2, o2, rfl, hcell2⟩ := rdb_form ho2.rd (by omega)
        replace hb1 := Lib.hid hb1
        replace hl2 := Lib.hid hl2
        replace ho2 := Lib.hid ho2
        replace hf2 := Lib.hid hf2
        replace hm2 := Lib.hid hm2
        replace hcell2 := Lib.hid hcell2
        go_wp2_with fail
        clear hkk2
        go_loopg [9] (k + 1) (fun gk y wr3 => ∃ j : Nat, y = .int .i64 (j : Int) ∧ j + gk = k + 1 ∧ (∀ i, i < j → (vb q)[i]? = l[i]?) ∧ ∃ d, wr3 = w1.drewN d)
        case atStart => exact ⟨0, rfl, by omega, fun i h => absurd h (Nat.not_lt_zero _), 0, rfl⟩
        case round =>
          obtain ⟨j, rfl, hj, hall3, dd, hdd⟩ := hrel
          have j1 : wr.cell? ⟨g, 0, none⟩ = some (.slice (some ⟨b, o, none⟩) l.length c) := by rw [hdd]; exact i1
          have j2 : wr.cell? ⟨g, 1, none⟩ = some (.int .i64 ((0 : Nat) : Int)) := by rw [hdd]; exact i2
          have j3 : wr.frozen? ⟨g, 0, none⟩ = false := by rw [hdd]; exact i3
          by_cases hjk : j ≤ k
          case pos =>
            have hjq : j < (vb q).length := by rw [hl2.out]; omega
            have x1 := hcell2.out j hjq
            have hjl : j < l.length := by omega
            have x2 := hcell1.out j hjl
            have y1 : wr.cell? ⟨b2, o2 + j, none⟩ = some (.int .u8 ((vb q)[j].toNat : Int)) := by rw [hdd]; exact x1
            have y2 : wr.cell? ⟨b, o + j, none⟩ = some (.int .u8 (l[j].toNat : Int)) := by rw [hdd]; exact x2
            have g1 : (vb q)[j]? = some (vb q)[j] := List.getElem?_eq_getElem hjq
            have g2 : l[j]? = some l[j] := List.getElem?_eq_getElem hjl
            clear x1 x2
            have hne : (((vb q)[j].toNat : Int) != (l[j].toNat : Int)) = !decide ((vb q)[j] = l[j]) := by
              by_cases h : (vb q)[j] = l[j]
              · simp [h]
              · have h' : (vb q)[j].toNat ≠ l[j].toNat := fun e => h (UInt8.toNat_inj.1 e)
                rw [decide_eq_false h]
                simp only [Bool.not_false, bne_iff_ne, ne_eq]
                omega
            have hi1 : (0 : Int) ≤ (j : Int) := by omega
            have hi2 : (j : Int) < ((k + 1 : Nat) : Int) := by omega
            have hi3 : (j : Int) < (l.length : Int) := by omega
            have hi4 : (j : Int) < (k : Int) + 1 := by omega
            generalize (vb q)[j] = x at *
            generalize l[j] = y at *
            by_cases hxy : x = y
            · rw [decide_eq_true hxy] at hne
              have hn3 : ∀ i, i < j + 1 → (vb q)[i]? = l[i]? := fun i hi => by
                by_cases e : i = j
                · rw [e, g1, g2, hxy]
                · exact hall3 i (by omega)
              clear hall3
              replace hn3 := Lib.hid hn3
              replace hdd := Lib.hid hdd
              replace hxy := Lib.hid hxy
              replace g1 := Lib.hid g1
              replace g2 := Lib.hid g2
              go_wp2_with (go_quiet (fail))
              go_roundg (gk - 1)
              case measure => omega
              case rel => exact ⟨j + 1, by go_num, by omega, hn3.out, _, by rw [hdd.out, World.drewN_drewN]⟩
            · rw [decide_eq_false hxy] at hne
              have hno : rst = (0, 3, []) := by
                rw [hres2.out, if_neg]
                intro h
                have h9 := congrArg (fun l => l[j]?) h
                rw [g1, List.getElem?_take, if_pos (by omega), g2] at h9
                injection h9 with h9
                exact hxy h9
              subst hno
              clear hall3
              replace hdd := Lib.hid hdd
              replace hxy := Lib.hid hxy
              replace g1 := Lib.hid g1
              replace g2 := Lib.hid g2
              go_wp2_with (go_quiet (fail))
              refine (fail_r2 _ g B 3 0 l (by rw [hdd.out]; exact (hall1.out.mod0 ((Mod.refl none_ w1).drewN _)).mod0 ((Mod.refl none_ _).drewN _))).mono ?_
              rintro en w2 ⟨rfl, hR, hm⟩
              dsimp only
              have hM := Lib.hid ((((hm2.out.drewN dd).any (only g)).trans (by rw [← hdd.out]; exact (Mod.refl (only g) _).drewN _)).trans hm)
              replace hR := Lib.hid hR
              replace hm := Lib.hid hm
              go_wp2_with fail
              go_ret2
              exact ⟨rfl, hR.out, hM.out⟩
          case neg =>
          have hyes : rst = (v0, 0, l.drop (k + 1)) := by
            rw [hres2.out, if_pos]
            apply List.ext_getElem?
            intro i
            rw [List.getElem?_take]
            by_cases hi : i < k + 1
            · rw [if_pos hi]; exact hall3 i (by omega)
            · rw [if_neg hi, List.getElem?_eq_none (by rw [hl2.out]; omega)]
          subst hyes
          clear hall3
          obtain ⟨p, hp⟩ : ∃ p, l.length = (k + 1) + p := ⟨l.length - (k + 1), by omega⟩
          obtain ⟨d, rfl⟩ : ∃ d, c = k + 1 + d := ⟨c - (k + 1), by omega⟩
          have hbr : Blk wr g 63 #[.slice (some ⟨b, o, none⟩) l.length (k + 1 + d), .int .i64 ((0 : Nat) : Int)] := by rw [hdd]; exact hb1.out
          have hrr : RdB wr (some ⟨b, o, none⟩) l.length l := by rw [hdd]; exact hr1.out
          have hfin := Lib.hid (@rest_gen2 wr g B _ _ _ l (k + 1) p d hbr hrr hA.out hB hp (by omega) (by omega))
          have hM := Lib.hid (show Mod (only g) w wr by rw [hdd]; exact (hm2.out.drewN dd).any _)
          have hpd : p ≤ d := by omega
          have hpl : ¬ ((j : Int) ≤ (k : Int)) := by omega
          have hlc : (k : Int) + 1 ≤ (l.length : Int) := by omega
          have hlc2 : (l.length : Int) ≤ ((k + 1 + d : Nat) : Int) := by omega
          clear hbr hrr hdd
          replace hp := Lib.hid hp
          by_cases d0 : d = 0
          · subst d0
            go_wp2_with fail
            go_ret2
            exact ⟨rfl, hfin.out _ _ _ (.inl ⟨rfl, by first | rfl | trivial⟩) (by have := hp.out; omega) (by omega), hM.out.set_only 0 _⟩
          · go_wp2_with fail
            go_ret2
            exact ⟨rfl, hfin.out _ _ _ (.inr rfl) (by have := hp.out; omega) (by omega), hM.out.set_only 0 _⟩
      case neg =>
        have e0 := hp3 hodd
        have e2 : ((q : Int) % 2 == 1) = true := by simp; omega
        have e3 : wrap64 ((q : Int) / 2) = (q : Int) / 2 := by rw [IntWalk.wrap64_in _ ⟨by omega, by omega⟩]
        have e1 : wrap64 (-1 - (q : Int) / 2) = v0 := by rw [IntWalk.wrap64_in _ ⟨by omega, by omega⟩]; omega
        have e4 : -1 - (q : Int) / 2 = v0 := by omega
        clear hp2 hp3
        replace hodd := Lib.hid hodd
        replace e0 := Lib.hid e0
        go_wp2_with fail
        refine kN.out.mono ?_
        rintro en w1 ⟨A2, k2, c2, rfl, ho2, hf2, hm2, hk2⟩
        dsimp only
        have hl2 := ho2.len
        have hall1 := Lib.hid (hall.out.mod0 hm2)
        have kF1 := Lib.hid (fun e' : Nat => fail_r2 w1 g B e' 0 l hall1.out)
        have hb1 := hb.out.mod hm2 (fun h => h)
        obtain ⟨i1, i2, i3, i4⟩ := hb1.two
        have hr1 := Lib.hid (Rd.mod0 hr.out hm2 : RdB w1 (some ⟨b, o, none⟩) l.length l)
        have hcell1 : Hid (∀ i (h : i < l.length), w1.cell? ⟨b, o + i, none⟩ = some (.int .u8 (l[i].toNat : Int))) := Lib.hid (fun i h => hm2.cell_some (hcell.out i h) (fun h => h))
        by_cases hkk : k2 = k + 1
        case neg =>
          have hno : rst = (0, 3, []) := by
            rw [hres2.out, if_neg]
            intro h
            have := congrArg List.length h
            rw [hl2, List.length_take] at this
            omega
          subst hno
          have hkk2 : ((k2 : Int) != (k : Int) + 1) = true := by simp; omega
          replace ho2 := Lib.hid ho2
          replace hf2 := Lib.hid hf2
          replace hm2 := Lib.hid hm2
          replace hkk := Lib.hid hkk
          replace hl2 := Lib.hid hl2
          replace hb1 := Lib.hid hb1
          go_wp2_with fail
          refine (kF1.out 3).mono ?_
          rintro en w2 ⟨rfl, hR, hm⟩
          dsimp only
          have hM := Lib.hid (hm2.out.any (only g) |>.trans hm)
          replace hR := Lib.hid hR
          replace hm := Lib.hid hm
          go_wp2_with fail
          go_ret2
          exact ⟨rfl, hR.out, hM.out⟩
        case pos =>
        subst hkk
        have hkk2 : (((k + 1 : Nat) : Int) != (k : Int) + 1) = false := by simp
        obtain ⟨b2, o2, rfl, hcell2⟩ := rdb_form ho2.rd (by omega)
        replace hb1 := Lib.hid hb1
        replace hl2 := Lib.hid hl2
        replace ho2 := Lib.hid ho2
        replace hf2 := Lib.hid hf2
        replace hm2 := Lib.hid hm2
        replace hcell2 := Lib.hid hcell2
        go_wp2_with fail
        clear hkk2
        go_loopg [9] (k + 1) (fun gk y wr3 => ∃ j : Nat, y = .int .i64 (j : Int) ∧ j + gk = k + 1 ∧ (∀ i, i < j → (vb q)[i]? = l[i]?) ∧ ∃ d, wr3 = w1.drewN d)
        case atStart => exact ⟨0, rfl, by omega, fun i h => absurd h (Nat.not_lt_zero _), 0, rfl⟩
        case round =>
          obtain ⟨j, rfl, hj, hall3, dd, hdd⟩ := hrel
          have j1 : wr.cell? ⟨g, 0, none⟩ = some (.slice (some ⟨b, o, none⟩) l.length c) := by rw [hdd]; exact i1
          have j2 : wr.cell? ⟨g, 1, none⟩ = some (.int .i64 ((0 : Nat) : Int)) := by rw [hdd]; exact i2
          have j3 : wr.frozen? ⟨g, 0, none⟩ = false := by rw [hdd]; exact i3
          by_cases hjk : j ≤ k
          case pos =>
            have hjq : j < (vb q).length := by rw [hl2.out]; omega
            have x1 := hcell2.out j hjq
            have hjl : j < l.length := by omega
            have x2 := hcell1.out j hjl
            have y1 : wr.cell? ⟨b2, o2 + j, none⟩ = some (.int .u8 ((vb q)[j].toNat : Int)) := by rw [hdd]; exact x1
            have y2 : wr.cell? ⟨b, o + j, none⟩ = some (.int .u8 (l[j].toNat : Int)) := by rw [hdd]; exact x2
            have g1 : (vb q)[j]? = some (vb q)[j] := List.getElem?_eq_getElem hjq
            have g2 : l[j]? = some l[j] := List.getElem?_eq_getElem hjl
            clear x1 x2
            have hne : (((vb q)[j].toNat : Int) != (l[j].toNat : Int)) = !decide ((vb q)[j] = l[j]) := by
              by_cases h : (vb q)[j] = l[j]
              · simp [h]
              · have h' : (vb q)[j].toNat ≠ l[j].toNat := fun e => h (UInt8.toNat_inj.1 e)
                rw [decide_eq_false h]
                simp only [Bool.not_false, bne_iff_ne, ne_eq]
                omega
            have hi1 : (0 : Int) ≤ (j : Int) := by omega
            have hi2 : (j : Int) < ((k + 1 : Nat) : Int) := by omega
            have hi3 : (j : Int) < (l.length : Int) := by omega
            have hi4 : (j : Int) < (k : Int) + 1 := by omega
            generalize (vb q)[j] = x at *
            generalize l[j] = y at *
            by_cases hxy : x = y
            · rw [decide_eq_true hxy] at hne
              have hn3 : ∀ i, i < j + 1 → (vb q)[i]? = l[i]? := fun i hi => by
                by_cases e : i = j
                · rw [e, g1, g2, hxy]
                · exact hall3 i (by omega)
              clear hall3
              replace hn3 := Lib.hid hn3
              replace hdd := Lib.hid hdd
              replace hxy := Lib.hid hxy
              replace g1 := Lib.hid g1
              replace g2 := Lib.hid g2
              go_wp2_with (go_quiet (fail))
              go_roundg (gk - 1)
              case measure => omega
              case rel => exact ⟨j + 1, by go_num, by omega, hn3.out, _, by rw [hdd.out, World.drewN_drewN]⟩
            · rw [decide_eq_false hxy] at hne
              have hno : rst = (0, 3, []) := by
                rw [hres2.out, if_neg]
                intro h
                have h9 := congrArg (fun l => l[j]?) h
                rw [g1, List.getElem?_take, if_pos (by omega), g2] at h9
                injection h9 with h9
                exact hxy h9
              subst hno
              clear hall3
              replace hdd := Lib.hid hdd
              replace hxy := Lib.hid hxy
              replace g1 := Lib.hid g1
              replace g2 := Lib.hid g2
              go_wp2_with (go_quiet (fail))
              refine (fail_r2 _ g B 3 0 l (by rw [hdd.out]; exact (hall1.out.mod0 ((Mod.refl none_ w1).drewN _)).mod0 ((Mod.refl none_ _).drewN _))).mono ?_
              rintro en w2 ⟨rfl, hR, hm⟩
              dsimp only
              have hM := Lib.hid ((((hm2.out.drewN dd).any (only g)).trans (by rw [← hdd.out]; exact (Mod.refl (only g) _).drewN _)).trans hm)
              replace hR := Lib.hid hR
              replace hm := Lib.hid hm
              go_wp2_with fail
              go_ret2
              exact ⟨rfl, hR.out, hM.out⟩
          case neg =>
          have hyes : rst = (v0, 0, l.drop (k + 1)) := by
            rw [hres2.out, if_pos]
            apply List.ext_getElem?
            intro i
            rw [List.getElem?_take]
            by_cases hi : i < k + 1
            · rw [if_pos hi]; exact hall3 i (by omega)
            · rw [if_neg hi, List.getElem?_eq_none (by rw [hl2.out]; omega)]
          subst hyes
          clear hall3
          obtain ⟨p, hp⟩ : ∃ p, l.length = (k + 1) + p := ⟨l.length - (k + 1), by omega⟩
          obtain ⟨d, rfl⟩ : ∃ d, c = k + 1 + d := ⟨c - (k + 1), by omega⟩
          have hbr : Blk wr g 63 #[.slice (some ⟨b, o, none⟩) l.length (k + 1 + d), .int .i64 ((0 : Nat) : Int)] := by rw [hdd]; exact hb1.out
          have hrr : RdB wr (some ⟨b, o, none⟩) l.length l := by rw [hdd]; exact hr1.out
          have hfin := Lib.hid (@rest_gen2 wr g B _ _ _ l (k + 1) p d hbr hrr hA.out hB hp (by omega) (by omega))
          have hM := Lib.hid (show Mod (only g) w wr by rw [hdd]; exact (hm2.out.drewN dd).any _)
          have hpd : p ≤ d := by omega
          have hpl : ¬ ((j : Int) ≤ (k : Int)) := by omega
          have hlc : (k : Int) + 1 ≤ (l.length : Int) := by omega
          have hlc2 : (l.length : Int) ≤ ((k + 1 + d : Nat) : Int) := by omega
          clear hbr hrr hdd
          replace hp := Lib.hid hp
          by_cases d0 : d = 0
          · subst d0
            go_wp2_with fail
            go_ret2
            exact ⟨rfl, hfin.out _ _ _ (.inl ⟨rfl, by first | rfl | trivial⟩) (by have := hp.out; omega) (by omega), hM.out.set_only 0 _⟩
          · go_wp2_with fail
            go_ret2
            exact ⟨rfl, hfin.out _ _ _ (.inr rfl) (by have := hp.out; omega) (by omega), hM.out.set_only 0 _⟩
set_option maxRecDepth 100000 in
theorem range_ok2 (w : World) (g B e : Nat) (l : List UInt8) (lo hi : Int) (h : Rdr2 w g B l e) : Calls Tryz.prog 45 #[.pointer (some ⟨g, 0, none⟩), .int .i64 lo, .int .i64 hi] w (RPost2 w g B (rg lo hi l e)) := by
  obtain ⟨v, e1, r, hrn⟩ : ∃ v e1 r, rn l e = (v, e1, r) := ⟨_, _, _, rfl⟩
  have hc := rnum_ok2 w g B e l h
  have hr : rg lo hi l e = if e1 ≠ 0 then (0, e1, r) else if v < lo ∨ hi < v then (0, 3, []) else (v, e1, r) := by unfold rg; rw [hrn]
  rw [hrn] at hc
  replace hc := Lib.hid hc
  replace hr := Lib.hid hr
  replace hrn := Lib.hid hrn
  go_enter Tryz.func45, Tryz.ntmps45
  go_wp2_with fail
  refine hc.out.mono ?_
  rintro en w1 ⟨rfl, hR, hm⟩
  dsimp only at hR ⊢
  replace hR := Lib.hid hR
  replace hm := Lib.hid hm
  by_cases he : e1 = 0
  · subst he
    by_cases c1 : v < lo
    · have c2 : decide (v < lo) = true := by simpa using c1
      go_wp2_with fail
      refine (fail_r2 _ g B 3 _ _ hR.out).mono ?_
      rintro en w2 ⟨rfl, hR2, hm2⟩
      replace hR2 := Lib.hid hR2
      replace hm2 := Lib.hid hm2
      go_wp2_with fail
      go_ret2
      rw [hr.out, if_neg (by omega), if_pos (.inl c1)]
      exact ⟨rfl, hR2.out, hm.out.trans hm2.out⟩
    · have c1' : decide (v < lo) = false := by simpa using c1
      by_cases c2 : hi < v
      · go_wp2_with fail
        refine (fail_r2 _ g B 3 _ _ hR.out).mono ?_
        rintro en w2 ⟨rfl, hR2, hm2⟩
        replace hR2 := Lib.hid hR2
        replace hm2 := Lib.hid hm2
        go_wp2_with fail
        go_ret2
        rw [hr.out, if_neg (by omega), if_pos (.inr c2)]
        exact ⟨rfl, hR2.out, hm.out.trans hm2.out⟩
      · go_wp2_with fail
        go_ret2
        rw [hr.out, if_neg (by omega), if_neg (by omega)]
        exact ⟨rfl, hR.out, hm.out⟩
  · have he1 : ((e1 : Int) != 0) = true := by simp; omega
    go_wp2_with fail
    go_ret2
    rw [hr.out, if_pos he]
    exact ⟨rfl, hR.out, hm.out⟩
def TPost2 (w : World) (g B : Nat) (r : List UInt8 × Nat × List UInt8) (en : Ending) (w' : World) : Prop :=
  en = .returned (.tuple #[.string (txt r.1), .int .i64 (r.2.1 : Int)]) ∧ Rdr2 w' g B r.2.2 r.2.1 ∧ Mod (only g) w w'
set_option maxRecDepth 100000 in
theorem rtext_ok2 (w : World) (g B e : Nat) (l : List UInt8) (most : Int) (h : Rdr2 w g B l e) (hmost : most ≤ 9223372036854775807) : Calls Tryz.prog 23 #[.pointer (some ⟨g, 0, none⟩), .int .i64 most] w (TPost2 w g B (rt most l e)) := by
  obtain ⟨v, e1, r, hrn⟩ : ∃ v e1 r, rg 0 most l e = (v, e1, r) := ⟨_, _, _, rfl⟩
  have hc := range_ok2 w g B e l 0 most h
  have hr : rt most l e = if e1 ≠ 0 then ([], e1, r) else if (r.length : Int) < v then ([], 4, []) else (r.take v.toNat, 0, r.drop v.toNat) := by unfold rt; rw [hrn]
  rw [hrn] at hc
  by_cases he : e1 = 0
  · subst he
    have hv := rg_bound hrn
    obtain ⟨k, rfl⟩ : ∃ k : Nat, v = (k : Int) := ⟨v.toNat, by omega⟩
    have hk : k ≤ 9223372036854775807 := by omega
    clear hv
    replace hc := Lib.hid hc
    replace hr := Lib.hid hr
    replace hrn := Lib.hid hrn
    go_enter Tryz.func23, Tryz.ntmps23
    go_wp2_with fail
    refine hc.out.mono ?_
    rintro en w1 ⟨rfl, hR, hm⟩
    dsimp only at hR ⊢
    have hall := Lib.hid hR
    obtain ⟨A, n, c, hb, hrd, hnc, hcm, hA, hB⟩ := hR
    obtain ⟨h1, h2, h3, h4⟩ := hb.two
    have hl := hrd.len
    subst hl
    replace hb := Lib.hid hb
    replace hrd := Lib.hid hrd
    replace hA := Lib.hid hA
    replace hm := Lib.hid hm
    by_cases c1 : r.length < k
    · go_wp2_with fail
      refine (fail_r2 _ g B 4 _ _ hall.out).mono ?_
      rintro en w2 ⟨rfl, hR2, hm2⟩
      replace hR2 := Lib.hid hR2
      replace hm2 := Lib.hid hm2
      go_wp2_with fail
      go_ret2
      rw [hr.out, if_neg (by omega), if_pos (by omega)]
      exact ⟨rfl, hR2.out, hm.out.trans hm2.out⟩
    · obtain ⟨q, hq⟩ : ∃ q, r.length = k + q := ⟨r.length - k, by omega⟩
      obtain ⟨d, rfl⟩ : ∃ d, c = k + d := ⟨c - k, by omega⟩
      have hfin := Lib.hid (@rest_gen2 w1 g B A _ _ r k q d hb.out hrd.out hA.out hB hq (by omega) (by omega))
      have hlt0 : decide (((k : Nat) : Int) + ((q : Nat) : Int) < ((k : Nat) : Int)) = false := by simp; omega
      by_cases d0 : d = 0
      · subst d0
        have hcv := run_string_of_bytes (P := Tryz.prog) w1 22 9 5 Tryz.underlying22 Tryz.underlying5 Tryz.underlying9 A k k (r.take k) (rdb_take hrd.out (by omega))
        go_wp2_with fail
        go_ret2
        rw [hr.out, if_neg (by omega), if_neg (by omega)]
        exact ⟨rfl, hfin.out _ _ _ (.inl ⟨rfl, by simp⟩) (by omega) (by omega), hm.out.set_only 0 _⟩
      · have hcv := run_string_of_bytes (P := Tryz.prog) w1 22 9 5 Tryz.underlying22 Tryz.underlying5 Tryz.underlying9 A k (k + d) (r.take k) (rdb_take hrd.out (by omega))
        go_wp2_with fail
        go_ret2
        rw [hr.out, if_neg (by omega), if_neg (by omega)]
        exact ⟨rfl, hfin.out _ _ _ (.inr rfl) (by omega) (by omega), hm.out.set_only 0 _⟩
  · have he1 : ((e1 : Int) != 0) = true := by simp; omega
    replace hc := Lib.hid hc
    replace hr := Lib.hid hr
    replace hrn := Lib.hid hrn
    go_enter Tryz.func23, Tryz.ntmps23
    go_wp2_with fail
    refine hc.out.mono ?_
    rintro en w1 ⟨rfl, hR, hm⟩
    dsimp only at hR ⊢
    replace hR := Lib.hid hR
    replace hm := Lib.hid hm
    go_wp2_with fail
    go_ret2
    rw [hr.out, if_pos he]
    exact ⟨rfl, hR.out, hm.out⟩
end Go.Proofs.YtimlfdihodoolaaGreat
/-
  A struct that the reference's reader fills: the reader reads the argument's own bytes. No condition.
-/
namespace Go.Proofs.YtimlfdihodoolaaGreat
set_option linter.unusedVariables false
set_option linter.unusedSimpArgs false
open Go.RowKit
/-- a reader of a struct at work: the reader, the result's variable, the variable that is filled; the bytes lie at or below the result -/
structure FillS2 (w : World) (t : TypeId) (z : Array Value) (g B q : Nat) (W : World) (cs : Array Value) (e : Nat) (l : List UInt8) : Prop where
  rd : Rdr2 W g B l e
  res : Blk W w.heap.size t z
  var : Blk W q t cs
  mod : Mod none_ w W
  gw : w.heap.size < g
  qw : w.heap.size < q
  qg : q ≠ g
  bl : B ≤ w.heap.size
section
variable {w : World} {t : TypeId} {z : Array Value} {g B q : Nat} {W W' : World} {cs : Array Value} {e e' : Nat} {l l' : List UInt8}
theorem FillS2.call (h : FillS2 w t z g B q W cs e l) (hm : Mod (only g) W W') (hr : Rdr2 W' g B l' e') : FillS2 w t z g B q W' cs e' l' :=
  ⟨hr, h.res.mod hm (fun hh => by have : w.heap.size = g := hh; have := h.gw; omega), h.var.mod hm (fun hh => h.qg hh), h.mod.in_new (Nat.le_of_lt h.gw) hm, h.gw, h.qw, h.qg, h.bl⟩
theorem FillS2.mod0 (h : FillS2 w t z g B q W cs e l) (hm : Mod none_ W W') : FillS2 w t z g B q W' cs e l :=
  ⟨h.rd.mod0 hm, h.res.mod hm (fun hh => hh), h.var.mod hm (fun hh => hh), h.mod.trans hm, h.gw, h.qw, h.qg, h.bl⟩
theorem FillS2.alloc (h : FillS2 w t z g B q W cs e l) (o : Obj) : FillS2 w t z g B q (W.alloc o) cs e l := h.mod0 ((Mod.refl none_ W).alloc o)
theorem FillS2.drew (h : FillS2 w t z g B q W cs e l) : FillS2 w t z g B q W.drew cs e l := h.mod0 (Mod.refl none_ W).drew
theorem FillS2.own (h : FillS2 w t z g B q W cs e l) {F : Nat → Prop} (hm : Mod F W W') (h1 : ¬ F g) (h3 : ¬ F q) (h4 : ∀ k, F k → w.heap.size < k) : FillS2 w t z g B q W' cs e l :=
  ⟨h.rd.mod hm h1 (fun hh => by have := h4 _ hh; have := h.bl; omega), h.res.mod hm (fun hh => by have := h4 _ hh; omega), h.var.mod hm h3, h.mod.then hm (fun i hi hk => by have := h4 _ hk; omega), h.gw, h.qw, h.qg, h.bl⟩
theorem FillS2.turn (h : FillS2 w t z g B q W cs e l) {cs' : Array Value} (hm : Mod (only q) W W') (hv : Blk W' q t cs') : FillS2 w t z g B q W' cs' e l :=
  ⟨h.rd.mod hm (fun hh => h.qg hh.symm) (fun hh => by have : B = q := hh; have := h.bl; have := h.qw; omega), h.res.mod hm (fun hh => by have : w.heap.size = q := hh; have := h.qw; omega), hv, h.mod.in_new (Nat.le_of_lt h.qw) hm, h.gw, h.qw, h.qg, h.bl⟩
theorem FillS2.store (h : FillS2 w t z g B q W cs e l) (o : Nat) (v : Value) : FillS2 w t z g B q (W.setCell ⟨q, o, none⟩ v) (cs.setIfInBounds o v) e l :=
  h.turn ((Mod.refl (only q) W).set_only o v) (h.var.set_ o v)
end
/-- append: the list grows, the rest stands -/
theorem ListOwn.app2 {w : World} {t t' : TypeId} {z cs : Array Value} {size g B q e : Nat} {l : List UInt8} {W W' : World} {A A' : Option Addr} {m cp m' cp' : Nat} {xs xs' : List Value} (h : ListOwn w t size g B q W A m cp xs) (st : FillS2 w t' z g B q W cs e l)
    (ho : Ow W' t size A' m' cp' xs') (hm : Mod (fp A) W W') (hA : A' = A ∨ A' = some ⟨W.heap.size, 0, none⟩) : ListOwn w t size g B q W' A' m' cp' xs' ∧ FillS2 w t' z g B q W' cs e l := by
  refine ⟨?_, st.own hm h.ng h.nq h.fr⟩
  rcases hA with rfl | rfl
  · exact ⟨ho, h.fr, h.ng, h.nb, h.nq⟩
  · have h1 := st.rd.lt
    have h2 := st.bl
    have h3 := st.var.lt
    have h4 := st.res.lt
    refine ⟨ho, ?_, ?_, ?_, ?_⟩
    · rintro k ⟨a, ha, rfl⟩; cases ha; exact h4
    · rintro ⟨a, ha, hk⟩; cases ha; simp only at hk; omega
    · rintro ⟨a, ha, hk⟩; cases ha; simp only at hk; omega
    · rintro ⟨a, ha, hk⟩; cases ha; simp only at hk; omega
theorem FillS2.new_ne {w : World} {t : TypeId} {z : Array Value} {g B q : Nat} {W : World} {cs : Array Value} {e : Nat} {l : List UInt8} (h : FillS2 w t z g B q W cs e l) : w.heap.size < W.heap.size ∧ g < W.heap.size ∧ B < W.heap.size ∧ q < W.heap.size :=
  ⟨h.res.lt, h.rd.lt, Nat.lt_of_le_of_lt h.bl h.res.lt, h.var.lt⟩
theorem range_r2 {w : World} {g B e : Nat} {l : List UInt8} {lo hi : Int} {r : Int × RS} (h1 : qg lo hi (e, l) = r) (h : Rdr2 w g B l e) : Calls Tryz.prog 45 #[.pointer (some ⟨g, 0, none⟩), .int .i64 lo, .int .i64 hi] w (RPost2 w g B r) := h1 ▸ range_ok2 w g B e l lo hi h
theorem num_r2 {w : World} {g B e : Nat} {l : List UInt8} {r : Int × RS} (h1 : qn (e, l) = r) (h : Rdr2 w g B l e) : Calls Tryz.prog 47 #[.pointer (some ⟨g, 0, none⟩)] w (RPost2 w g B r) := h1 ▸ rnum_ok2 w g B e l h
theorem text_r2 {w : World} {g B e : Nat} {l : List UInt8} {most : Int} {r : List UInt8 × RS} (h1 : qt most (e, l) = r) (hm : most ≤ 9223372036854775807) (h : Rdr2 w g B l e) : Calls Tryz.prog 23 #[.pointer (some ⟨g, 0, none⟩), .int .i64 most] w (TPost2 w g B r) := h1 ▸ rtext_ok2 w g B e l most h hm
theorem bytes_of_run2 (w : World) (l : List UInt8) (hl : l.length ≤ 1000000000) : ∃ A c w', (convert 9 22 (.string (txt l))).run Tryz.prog w = .ok (.slice A l.length c) w' ∧ RdB w' A l.length l ∧ Fresh w A ∧ l.length ≤ c ∧ c ≤ 9223372036854775807 ∧ Mod none_ w w' := by
  obtain ⟨A, c, w', h1, h2, h3, h4, h5, _⟩ := bytes_of_run w l
  have h := Lib.run_convert_string_bytes (P := Tryz.prog) w 9 22 5 (txt l) Tryz.underlying9 Tryz.underlying22 Tryz.underlying5
  have hb := grownCap_le_maxLen w l.length 0 5 (by simp only [maxLen]; omega)
  rw [txt_size, h1] at h
  simp only [Result.ok.injEq, Value.slice.injEq] at h
  refine ⟨A, c, w', h1, h2, h3, h4, ?_, h5⟩
  rw [h.1.2.2]
  simp only [maxLen] at hb
  omega
theorem conv_bm {w : World} {ops : Array Oper} {rest : List Oper} {o : Oper} {a : Act} {Q : Exit → Act → World → Prop} (hgd : o.guard = none) (x : Operand) (ho : o.op = .convert 9 22 x)
    {l : List UInt8} (hx : a.eval x = .string (txt l)) (hl : l.length ≤ 1000000000)
    (h : ∀ A c w', RdB w' A l.length l → Fresh w A → l.length ≤ c → c ≤ 9223372036854775807 → Mod none_ w w' → wpList Tryz.prog ops Q rest (a.put o.dst (.slice A l.length c)) w') : wpList Tryz.prog ops Q (o :: rest) a w := by
  refine wpList_plain hgd fun K hK => ?_
  obtain ⟨A, c, w', hrun, h1, h2, h3, h4, h5⟩ := bytes_of_run2 w l hl
  unfold Oper.wp
  simp [execOp, ho, hx, hrun, Result.andThen]
  exact hK _ _ (h A c w' h1 h2 h3 h4 h5)
end Go.Proofs.YtimlfdihodoolaaGreat
/-
  The reference's order.Read, plain: it tells what order.Read tells. No condition.
-/
namespace Go.Proofs.YtimlfdihodoolaaGreat
set_option linter.unusedVariables false
set_option linter.unusedSimpArgs false
def rdO6 : PR Od := bd (qg 0 9) fun c => bd (qg 1 999) fun s => bd (qg 1 7) fun k => bd (qt 8) fun a => bd (qt 8) fun p => bd qn fun x => bd (qg 0 6) fun n =>
  bd (rdList rdLeg n.toNat) fun ls => bd (qg 0 1000) fun per => bd (qg 0 9999) fun hold => bd (qt 20) fun note => pu ⟨c, s, k, a, p, x, ls, per, hold, note⟩
theorem rdO6_exact (s : RS) (o : Od) (t : List UInt8) (h : rdO6 s = (o, 0, t)) : s = (0, orderB o ++ t) ∧ okOd o := by
  unfold rdO6 at h
  obtain ⟨c, s1, h1, h⟩ := bd_inv h
  obtain ⟨q, s2, h2, h⟩ := bd_inv h
  obtain ⟨k, s3, h3, h⟩ := bd_inv h
  obtain ⟨a, s4, h4, h⟩ := bd_inv h
  obtain ⟨p, s5, h5, h⟩ := bd_inv h
  obtain ⟨x, s6, h6, h⟩ := bd_inv h
  obtain ⟨n, s7, h7, h⟩ := bd_inv h
  obtain ⟨ls, s8, h8, h⟩ := bd_inv h
  obtain ⟨per, s9, h9, h⟩ := bd_inv h
  obtain ⟨hold, s10, h10, h⟩ := bd_inv h
  obtain ⟨note, s11, h11, h⟩ := bd_inv h
  simp only [pu, Prod.mk.injEq] at h
  obtain ⟨rfl, rfl⟩ := h
  obtain ⟨rfl, k11⟩ := qt_exact h11
  obtain ⟨rfl, k10⟩ := qg_exact h10
  obtain ⟨rfl, k9⟩ := qg_exact h9
  obtain ⟨rfl, k8, k8'⟩ := rdList_exact rdLeg_exact _ _ _ _ h8
  obtain ⟨rfl, k7⟩ := qg_exact h7
  obtain ⟨rfl, k6⟩ := qn_exact h6
  obtain ⟨rfl, k5⟩ := qt_exact h5
  obtain ⟨rfl, k4⟩ := qt_exact h4
  obtain ⟨rfl, k3⟩ := qg_exact h3
  obtain ⟨rfl, k2⟩ := qg_exact h2
  obtain ⟨rfl, k1⟩ := qg_exact h1
  refine ⟨?_, k1, ⟨by dsimp only; omega, k2.2⟩, ⟨by dsimp only; omega, k3.2⟩, by dsimp only; omega, by dsimp only; omega, k6, by dsimp only; omega, k8', k9, k10, by dsimp only; omega⟩
  have e : ((ls.length : Nat) : Int) = n := by rw [k8]; omega
  unfold orderB
  dsimp only
  rw [e]
  simp only [List.append_assoc]
theorem rdO6_reads (o : Od) (t : List UInt8) (h : okOd o) (hs : 1 ≤ o.s) (hk : 1 ≤ o.k) : rdO6 (0, orderB o ++ t) = (o, 0, t) := by
  obtain ⟨h1, h2, h3, h4, h5, h6, h7, h8, h9, h10, h11⟩ := h
  unfold rdO6 orderB
  simp only [List.append_assoc]
  rw [bd_of (qg_reads _ h1.1 h1.2 (in64_of h1.1 h1.2 (by decide) (by decide))), bd_of (qg_reads _ hs h2.2 (in64_of h2.1 h2.2 (by decide) (by decide))), bd_of (qg_reads _ hk h3.2 (in64_of h3.1 h3.2 (by decide) (by decide))),
    bd_of (qt_reads _ (by omega) (by omega)), bd_of (qt_reads _ (by omega) (by omega)), bd_of (qn_reads _ h6), bd_of (qg_reads _ (by omega) (by omega) ⟨by omega, by omega⟩)]
  rw [show ((o.legs.length : Int)).toNat = o.legs.length by omega, bd_of (rdList_reads rdLeg_reads _ _ h8),
    bd_of (qg_reads _ h9.1 h9.2 (in64_of h9.1 h9.2 (by decide) (by decide))), bd_of (qg_reads _ h10.1 h10.2 (in64_of h10.1 h10.2 (by decide) (by decide))), bd_of (qt_reads _ (by omega) (by omega))]
  rfl
/-- the reference's order.Read -/
def r6Ord (b : List UInt8) : Od × Nat :=
  if dn (rdO6 (0, b)).2.2 (rdO6 (0, b)).2.1 ≠ 0 ∨ rightO (rdO6 (0, b)).1 = false then (od0, 3) else ((rdO6 (0, b)).1, 0)
theorem rightO_low {o : Od} (h : rightO o = true) : 1 ≤ o.s ∧ 1 ≤ o.k := by
  unfold rightO at h
  rw [Bool.and_eq_true] at h
  obtain ⟨h1, h2⟩ := h
  unfold idB at h1
  rw [decide_eq_true_eq] at h1
  refine ⟨h1.2.2.1, ?_⟩
  unfold kindB at h2
  repeat' split at h2
  all_goals first | omega | (cases h2)
theorem r6Ord_yes {b : List UInt8} {o : Od} (h : r6Ord b = (o, 0)) : rightO o = true ∧ b = orderB o ∧ okOd o := by
  unfold r6Ord at h
  obtain ⟨p, e, t, hr⟩ : ∃ p e t, rdO6 (0, b) = (p, e, t) := tri_ _
  rw [hr] at h
  dsimp only at h
  by_cases hd : dn t e ≠ 0 ∨ rightO p = false
  · rw [if_pos hd] at h
    simp at h
  · rw [if_neg hd] at h
    cases h
    have h1 : dn t e = 0 := by
      rcases Nat.eq_zero_or_pos (dn t e) with h | h
      · exact h
      · exact absurd (.inl (by omega)) hd
    obtain ⟨rfl, rfl⟩ := dn_zero.1 h1
    obtain ⟨h2, h3⟩ := rdO6_exact _ _ _ hr
    rw [List.append_nil] at h2
    refine ⟨?_, by cases h2; rfl, h3⟩
    cases h4 : rightO o with
    | true => rfl
    | false => exact absurd (.inr h4) hd
theorem r6Ord_of {o : Od} (h : rightO o = true) (hn : in64 o.sum ∧ ∀ l ∈ o.legs, in64 l.x) : r6Ord (orderB o) = (o, 0) := by
  have h1 := rdO6_reads o [] (rightO_okOd h hn) (rightO_low h).1 (rightO_low h).2
  rw [List.append_nil] at h1
  unfold r6Ord
  rw [h1]
  dsimp only
  rw [if_neg (by rw [h]; simp [dn])]
theorem r6Ord_two (b : List UInt8) : (r6Ord b).2 = 0 ∨ r6Ord b = (od0, 3) := by
  unfold r6Ord
  split
  · exact .inr rfl
  · exact .inl rfl
theorem okOd_nums {o : Od} (h : okOd o) : in64 o.sum ∧ ∀ l ∈ o.legs, in64 l.x := ⟨h.2.2.2.2.2.1, fun l hl => (h.2.2.2.2.2.2.2.1 l hl).2⟩
theorem r6Ord_eq (b : List UInt8) : r6Ord b = rdOrd b := by
  obtain ⟨o, f, h⟩ : ∃ o f, r6Ord b = (o, f) := duo_ _
  obtain ⟨o', f', h'⟩ : ∃ o f, rdOrd b = (o, f) := duo_ _
  have t1 := r6Ord_two b
  have t2 := rdOrd_two b
  rw [h] at t1 ⊢
  rw [h'] at t2 ⊢
  dsimp only at t1 t2
  rcases t1 with rfl | e1
  · obtain ⟨k1, rfl, k3⟩ := r6Ord_yes h
    rw [rdOrd_of k1 (okOd_nums k3)] at h'
    exact h'
  · rcases t2 with rfl | e2
    · obtain ⟨k1, rfl, k3⟩ := rdOrd_yes h'
      rw [r6Ord_of k1 (okOd_nums k3)] at h
      exact h.symm
    · rw [e1, e2]
end Go.Proofs.YtimlfdihodoolaaGreat
/-
  The references' Same, of what is the same. No condition.
-/
namespace Go.Proofs.YtimlfdihodoolaaGreat
set_option linter.unusedVariables false
set_option linter.unusedSimpArgs false
open Go.RowKit
theorem neq_id (W : World) (x y : Is) : (binOp .neq 27 (isV x) (isV y)).run Tryz.prog W = .ok (.bool (!decide (x = y))) W := by
  have := eqIn_id W x y
  unfold isV at *
  rw [run_neq_struct, this] <;> rfl
set_option maxRecDepth 100000 in
set_option maxHeartbeats 4000000 in
theorem same6_eq (w : World) (a : Od) (L M : SV) (ha : OdM w a L) (hb : OdM w a M) (hL : L.n ≤ 140737488355328) :
    Calls Tryz.prog 57 #[.agg #[.int .i64 a.c, .int .i64 a.s, .int .i64 a.k, .string (txt a.acct), .string (txt a.peer), .int .i64 a.sum, .slice L.a L.n L.c, .int .i64 a.per, .int .i64 a.hold, .string (txt a.note)], .agg #[.int .i64 a.c, .int .i64 a.s, .int .i64 a.k, .string (txt a.acct), .string (txt a.peer), .int .i64 a.sum, .slice M.a M.n M.c, .int .i64 a.per, .int .i64 a.hold, .string (txt a.note)]] w fun e w' => e = .returned (.bool true) ∧ Mod none_ w w' := by
  have hid := fun W => neq_id W ⟨a.c, a.s⟩ ⟨a.c, a.s⟩
  unfold isV at hid
  simp only [decide_true, Bool.not_true] at hid
  have hLM : L.n = M.n := by have h1 := ha.rd.len; have h2 := hb.rd.len; omega
  have hz : ((L.n : Int) != (L.n : Int)) = false := by simp
  rw [← hLM]
  have hm0 := ((Mod.refl none_ w).alloc (.cells #[.int .i64 a.c, .int .i64 a.s, .int .i64 a.k, .string (txt a.acct), .string (txt a.peer), .int .i64 a.sum, .slice L.a L.n L.c, .int .i64 a.per, .int .i64 a.hold, .string (txt a.note)] 30)).alloc (.cells #[.int .i64 a.c, .int .i64 a.s, .int .i64 a.k, .string (txt a.acct), .string (txt a.peer), .int .i64 a.sum, .slice M.a L.n M.c, .int .i64 a.per, .int .i64 a.hold, .string (txt a.note)] 30)
  have hb1 := (Blk.new w 30 #[.int .i64 a.c, .int .i64 a.s, .int .i64 a.k, .string (txt a.acct), .string (txt a.peer), .int .i64 a.sum, .slice L.a L.n L.c, .int .i64 a.per, .int .i64 a.hold, .string (txt a.note)]).alloc (.cells #[.int .i64 a.c, .int .i64 a.s, .int .i64 a.k, .string (txt a.acct), .string (txt a.peer), .int .i64 a.sum, .slice M.a L.n M.c, .int .i64 a.per, .int .i64 a.hold, .string (txt a.note)] 30)
  have hb2 := Blk.new (w.alloc (.cells #[.int .i64 a.c, .int .i64 a.s, .int .i64 a.k, .string (txt a.acct), .string (txt a.peer), .int .i64 a.sum, .slice L.a L.n L.c, .int .i64 a.per, .int .i64 a.hold, .string (txt a.note)] 30)) 30 #[.int .i64 a.c, .int .i64 a.s, .int .i64 a.k, .string (txt a.acct), .string (txt a.peer), .int .i64 a.sum, .slice M.a L.n M.c, .int .i64 a.per, .int .i64 a.hold, .string (txt a.note)]
  have hsz : (w.alloc (.cells #[.int .i64 a.c, .int .i64 a.s, .int .i64 a.k, .string (txt a.acct), .string (txt a.peer), .int .i64 a.sum, .slice L.a L.n L.c, .int .i64 a.per, .int .i64 a.hold, .string (txt a.note)] 30)).heap.size = w.heap.size + 1 := by simp
  rw [hsz] at hb2
  clear hsz
  have hRa := Lib.hid ha.rd
  have hRb := Lib.hid (show RdL w M.a L.n a.legs by rw [hLM]; exact hb.rd)
  have hal := Lib.hid ha.rd.len
  clear ha hb
  replace hm0 := Lib.hid hm0
  replace hb1 := Lib.hid hb1
  replace hb2 := Lib.hid hb2
  replace hLM := Lib.hid hLM
  go_enter Tryz.func57, Tryz.ntmps57
  go_wp2_with fail
  obtain ⟨W0, hW0⟩ : ∃ W0, W0 = (w.alloc (.cells #[.int .i64 a.c, .int .i64 a.s, .int .i64 a.k, .string (txt a.acct), .string (txt a.peer), .int .i64 a.sum, .slice L.a L.n L.c, .int .i64 a.per, .int .i64 a.hold, .string (txt a.note)] 30)).alloc (.cells #[.int .i64 a.c, .int .i64 a.s, .int .i64 a.k, .string (txt a.acct), .string (txt a.peer), .int .i64 a.sum, .slice M.a L.n M.c, .int .i64 a.per, .int .i64 a.hold, .string (txt a.note)] 30) := ⟨_, rfl⟩
  rw [← hW0] at hm0 hb1 hb2 ⊢
  replace hW0 := Lib.hid hW0
  go_loopg [5] L.n (fun k x wr => ∃ j : Nat, x = .int .i64 j ∧ j + k = L.n ∧ ∃ q, wr = W0.drewN q)
  case atStart => exact ⟨0, rfl, by omega, 0, rfl⟩
  case round =>
    obtain ⟨j, rfl, hj, q, hq⟩ := hrel
    have c1 : wr.cell? ⟨w.heap.size, 6, none⟩ = some (.slice L.a L.n L.c) := by rw [hq]; exact (hb1.out.drewN q).cell_ rfl
    have c2 : wr.cell? ⟨w.heap.size + 1, 6, none⟩ = some (.slice M.a L.n M.c) := by rw [hq]; exact (hb2.out.drewN q).cell_ rfl
    by_cases hlt : j < L.n
    · have hjC : j < a.legs.length := by rw [hal.out]; exact hlt
      have hmq := hm0.out.drewN q
      obtain ⟨b, o, x0, e1, -, hx0, a1, a2⟩ := rdl_get (w := W0.drewN q) (Rd.mod0 hRa.out hmq) hlt
      rw [List.getElem?_eq_getElem hjC] at hx0
      injection hx0 with hx0
      subst hx0
      obtain ⟨b', o', y0, e2, -, hy0, b1, b2⟩ := rdl_get (w := W0.drewN q) (Rd.mod0 hRb.out hmq) hlt
      rw [List.getElem?_eq_getElem hjC] at hy0
      injection hy0 with hy0
      subst hy0
      rw [← hq] at a1 a2 b1 b2
      rw [e1] at c1
      rw [e2] at c2
      generalize a.legs[j] = x at *
      have hne := fun W => neq_lg W x x
      unfold lgV at hne
      simp only [decide_true, Bool.not_true] at hne
      clear hmq
      replace hq := Lib.hid hq
      replace hjC := Lib.hid hjC
      replace e1 := Lib.hid e1
      replace e2 := Lib.hid e2
      go_wp2_with (go_quiet (fail))
      go_roundg (gk - 1)
      case measure => omega
      case rel => exact ⟨j + 1, by go_num, by omega, _, by rw [hq.out, World.drewN_drewN]⟩
    · obtain rfl : j = L.n := by omega
      have hend := Lib.hid (show Mod none_ w wr by rw [hq]; exact hm0.out.drewN q)
      replace hq := Lib.hid hq
      go_wp2_with fail
      go_ret
      exact ⟨rfl, hend.out⟩
set_option maxRecDepth 100000 in
set_option maxHeartbeats 4000000 in
theorem same14_eq (w : World) (a : En) (L D M E : SV) (ha : EnM w a L D) (hb : EnM w a M E) (hL : L.n ≤ 140737488355328) (hD : D.n ≤ 140737488355328) :
    Calls Tryz.prog 29 #[.agg #[.int .i64 a.o.c, .int .i64 a.o.s, .int .i64 a.o.k, .string (txt a.o.acct), .string (txt a.o.peer), .int .i64 a.o.sum, .slice L.a L.n L.c, .int .i64 a.o.per, .int .i64 a.o.hold, .string (txt a.o.note), .bool a.none, .slice D.a D.n D.c], .agg #[.int .i64 a.o.c, .int .i64 a.o.s, .int .i64 a.o.k, .string (txt a.o.acct), .string (txt a.o.peer), .int .i64 a.o.sum, .slice M.a M.n M.c, .int .i64 a.o.per, .int .i64 a.o.hold, .string (txt a.o.note), .bool a.none, .slice E.a E.n E.c]] w fun e w' => e = .returned (.bool true) ∧ Mod none_ w w' := by
  have k6 := Lib.hid (fun W (h : Mod none_ w W) => same6_eq W a.o L M (ha.od.mod0 h) (hb.od.mod0 h) hL)
  have hDE : D.n = E.n := by have h1 := ha.rd.len; have h2 := hb.rd.len; omega
  have hz : ((D.n : Int) != (D.n : Int)) = false := by simp
  have hz2 : (a.none != a.none) = false := by simp
  rw [← hDE]
  have hm0 := ((Mod.refl none_ w).alloc (.cells #[.int .i64 a.o.c, .int .i64 a.o.s, .int .i64 a.o.k, .string (txt a.o.acct), .string (txt a.o.peer), .int .i64 a.o.sum, .slice L.a L.n L.c, .int .i64 a.o.per, .int .i64 a.o.hold, .string (txt a.o.note), .bool a.none, .slice D.a D.n D.c] 33)).alloc (.cells #[.int .i64 a.o.c, .int .i64 a.o.s, .int .i64 a.o.k, .string (txt a.o.acct), .string (txt a.o.peer), .int .i64 a.o.sum, .slice M.a M.n M.c, .int .i64 a.o.per, .int .i64 a.o.hold, .string (txt a.o.note), .bool a.none, .slice E.a D.n E.c] 33)
  have hb1 := (Blk.new w 33 #[.int .i64 a.o.c, .int .i64 a.o.s, .int .i64 a.o.k, .string (txt a.o.acct), .string (txt a.o.peer), .int .i64 a.o.sum, .slice L.a L.n L.c, .int .i64 a.o.per, .int .i64 a.o.hold, .string (txt a.o.note), .bool a.none, .slice D.a D.n D.c]).alloc (.cells #[.int .i64 a.o.c, .int .i64 a.o.s, .int .i64 a.o.k, .string (txt a.o.acct), .string (txt a.o.peer), .int .i64 a.o.sum, .slice M.a M.n M.c, .int .i64 a.o.per, .int .i64 a.o.hold, .string (txt a.o.note), .bool a.none, .slice E.a D.n E.c] 33)
  have hb2 := Blk.new (w.alloc (.cells #[.int .i64 a.o.c, .int .i64 a.o.s, .int .i64 a.o.k, .string (txt a.o.acct), .string (txt a.o.peer), .int .i64 a.o.sum, .slice L.a L.n L.c, .int .i64 a.o.per, .int .i64 a.o.hold, .string (txt a.o.note), .bool a.none, .slice D.a D.n D.c] 33)) 33 #[.int .i64 a.o.c, .int .i64 a.o.s, .int .i64 a.o.k, .string (txt a.o.acct), .string (txt a.o.peer), .int .i64 a.o.sum, .slice M.a M.n M.c, .int .i64 a.o.per, .int .i64 a.o.hold, .string (txt a.o.note), .bool a.none, .slice E.a D.n E.c]
  have hsz : (w.alloc (.cells #[.int .i64 a.o.c, .int .i64 a.o.s, .int .i64 a.o.k, .string (txt a.o.acct), .string (txt a.o.peer), .int .i64 a.o.sum, .slice L.a L.n L.c, .int .i64 a.o.per, .int .i64 a.o.hold, .string (txt a.o.note), .bool a.none, .slice D.a D.n D.c] 33)).heap.size = w.heap.size + 1 := by simp
  rw [hsz] at hb2
  clear hsz
  have hRa := Lib.hid ha.rd
  have hRb := Lib.hid (show RdP w E.a D.n a.deps by rw [hDE]; exact hb.rd)
  have hal := Lib.hid ha.rd.len
  clear ha hb
  replace hm0 := Lib.hid hm0
  replace hb1 := Lib.hid hb1
  replace hb2 := Lib.hid hb2
  replace hDE := Lib.hid hDE
  go_enter Tryz.func29, Tryz.ntmps29
  go_wp2_with fail
  with_reducible refine (k6.out _ hm0.out).mono ?_
  rintro e W0 ⟨rfl, hm1⟩
  dsimp only
  have hM1 := Lib.hid (hm0.out.trans hm1)
  have hB1 := Lib.hid (hb1.out.mod hm1 (fun h => h))
  have hB2 := Lib.hid (hb2.out.mod hm1 (fun h => h))
  have i1 : W0.cell? ⟨w.heap.size, 10, none⟩ = some (.bool a.none) := hB1.out.cell_ rfl
  have i2 : W0.cell? ⟨w.heap.size + 1, 10, none⟩ = some (.bool a.none) := hB2.out.cell_ rfl
  have i3 : W0.cell? ⟨w.heap.size, 11, none⟩ = some (.slice D.a D.n D.c) := hB1.out.cell_ rfl
  have i4 : W0.cell? ⟨w.heap.size + 1, 11, none⟩ = some (.slice E.a D.n E.c) := hB2.out.cell_ rfl
  clear hm1 hb1 hb2 hm0 k6
  go_wp2_with fail
  clear i1 i2 i3 i4
  go_loopg [5] D.n (fun k x wr => ∃ j : Nat, x = .int .i64 j ∧ j + k = D.n ∧ ∃ q, wr = W0.drewN q)
  case atStart => exact ⟨0, rfl, by omega, 0, rfl⟩
  case round =>
    obtain ⟨j, rfl, hj, q, hq⟩ := hrel
    have c1 : wr.cell? ⟨w.heap.size, 11, none⟩ = some (.slice D.a D.n D.c) := by rw [hq]; exact (hB1.out.drewN q).cell_ rfl
    have c2 : wr.cell? ⟨w.heap.size + 1, 11, none⟩ = some (.slice E.a D.n E.c) := by rw [hq]; exact (hB2.out.drewN q).cell_ rfl
    by_cases hlt : j < D.n
    · have hjC : j < a.deps.length := by rw [hal.out]; exact hlt
      have hmq := hM1.out.drewN q
      obtain ⟨b, o, x0, e1, -, hx0, a1, a2⟩ := rdp_get (w := W0.drewN q) (Rd.mod0 hRa.out hmq) hlt
      rw [List.getElem?_eq_getElem hjC] at hx0
      injection hx0 with hx0
      subst hx0
      obtain ⟨b', o', y0, e2, -, hy0, b1, b2⟩ := rdp_get (w := W0.drewN q) (Rd.mod0 hRb.out hmq) hlt
      rw [List.getElem?_eq_getElem hjC] at hy0
      injection hy0 with hy0
      subst hy0
      rw [← hq] at a1 a2 b1 b2
      rw [e1] at c1
      rw [e2] at c2
      generalize a.deps[j] = x at *
      have hne := fun W => neq_is W x x
      unfold isV at hne
      simp only [decide_true, Bool.not_true] at hne
      clear hmq
      replace hq := Lib.hid hq
      replace hjC := Lib.hid hjC
      replace e1 := Lib.hid e1
      replace e2 := Lib.hid e2
      go_wp2_with (go_quiet (fail))
      go_roundg (gk - 1)
      case measure => omega
      case rel => exact ⟨j + 1, by go_num, by omega, _, by rw [hq.out, World.drewN_drewN]⟩
    · obtain rfl : j = D.n := by omega
      have hend := Lib.hid (show Mod none_ w wr by rw [hq]; exact hM1.out.drewN q)
      replace hq := Lib.hid hq
      go_wp2_with fail
      go_ret
      exact ⟨rfl, hend.out⟩
end Go.Proofs.YtimlfdihodoolaaGreat
/-
  The reference's Same of orders, in general. No condition.
-/
namespace Go.Proofs.YtimlfdihodoolaaGreat
set_option linter.unusedVariables false
set_option linter.unusedSimpArgs false
open Go.RowKit
theorem od_eq {a b : Od} : a = b ↔ (a.c = b.c ∧ a.s = b.s ∧ a.k = b.k ∧ a.acct = b.acct ∧ a.peer = b.peer ∧ a.sum = b.sum ∧ a.per = b.per ∧ a.hold = b.hold ∧ a.note = b.note) ∧ a.legs = b.legs := by
  cases a; cases b
  simp only [Od.mk.injEq]
  exact ⟨fun ⟨h1, h2, h3, h4, h5, h6, h7, h8, h9, h10⟩ => ⟨⟨h1, h2, h3, h4, h5, h6, h8, h9, h10⟩, h7⟩, fun ⟨⟨h1, h2, h3, h4, h5, h6, h8, h9, h10⟩, h7⟩ => ⟨h1, h2, h3, h4, h5, h6, h7, h8, h9, h10⟩⟩
def FieldsO (a b : Od) : Prop := a.c = b.c ∧ a.s = b.s ∧ a.k = b.k ∧ a.acct = b.acct ∧ a.peer = b.peer ∧ a.sum = b.sum ∧ a.per = b.per ∧ a.hold = b.hold ∧ a.note = b.note
set_option maxRecDepth 100000 in
set_option maxHeartbeats 8000000 in
theorem same6_no (w : World) (a b : Od) (L M : SV) (hf : ¬ FieldsO a b) :
    Calls Tryz.prog 57 #[.agg #[.int .i64 a.c, .int .i64 a.s, .int .i64 a.k, .string (txt a.acct), .string (txt a.peer), .int .i64 a.sum, .slice L.a L.n L.c, .int .i64 a.per, .int .i64 a.hold, .string (txt a.note)], .agg #[.int .i64 b.c, .int .i64 b.s, .int .i64 b.k, .string (txt b.acct), .string (txt b.peer), .int .i64 b.sum, .slice M.a M.n M.c, .int .i64 b.per, .int .i64 b.hold, .string (txt b.note)]] w fun e w' => e = .returned (.bool false) ∧ Mod none_ w w' := by
  have hid := fun W => neq_id W ⟨a.c, a.s⟩ ⟨b.c, b.s⟩
  unfold isV at hid
  dsimp only at hid
  unfold FieldsO at hf
  replace hf := Lib.hid hf
  go_enter Tryz.func57, Tryz.ntmps57
  go_wp2_with fail
  · go_ret
    exact ⟨rfl, ((Mod.refl none_ w).alloc _).alloc _⟩
  · have e1 : a.c = b.c ∧ a.s = b.s := by assumption
    exact absurd ⟨e1.1, e1.2, by assumption, by assumption, by assumption, by assumption, by assumption, by assumption, by assumption⟩ hf.out
  all_goals
    go_ret
    exact ⟨rfl, ((Mod.refl none_ w).alloc _).alloc _⟩
set_option maxRecDepth 100000 in
set_option maxHeartbeats 8000000 in
theorem same6_legs (w : World) (a : Od) (bl : List Lg) (L M : SV) (ha : OdM w a L) (hb : RdL w M.a M.n bl) (hL : L.n ≤ 140737488355328) (hM : M.n ≤ 140737488355328) (hab : a.legs ≠ bl) :
    Calls Tryz.prog 57 #[.agg #[.int .i64 a.c, .int .i64 a.s, .int .i64 a.k, .string (txt a.acct), .string (txt a.peer), .int .i64 a.sum, .slice L.a L.n L.c, .int .i64 a.per, .int .i64 a.hold, .string (txt a.note)], .agg #[.int .i64 a.c, .int .i64 a.s, .int .i64 a.k, .string (txt a.acct), .string (txt a.peer), .int .i64 a.sum, .slice M.a M.n M.c, .int .i64 a.per, .int .i64 a.hold, .string (txt a.note)]] w fun e w' => e = .returned (.bool false) ∧ Mod none_ w w' := by
  have hid := fun W => neq_id W ⟨a.c, a.s⟩ ⟨a.c, a.s⟩
  unfold isV at hid
  simp only [decide_true, Bool.not_true] at hid
  have hm0 := ((Mod.refl none_ w).alloc (.cells #[.int .i64 a.c, .int .i64 a.s, .int .i64 a.k, .string (txt a.acct), .string (txt a.peer), .int .i64 a.sum, .slice L.a L.n L.c, .int .i64 a.per, .int .i64 a.hold, .string (txt a.note)] 30)).alloc (.cells #[.int .i64 a.c, .int .i64 a.s, .int .i64 a.k, .string (txt a.acct), .string (txt a.peer), .int .i64 a.sum, .slice M.a M.n M.c, .int .i64 a.per, .int .i64 a.hold, .string (txt a.note)] 30)
  have hb1 := (Blk.new w 30 #[.int .i64 a.c, .int .i64 a.s, .int .i64 a.k, .string (txt a.acct), .string (txt a.peer), .int .i64 a.sum, .slice L.a L.n L.c, .int .i64 a.per, .int .i64 a.hold, .string (txt a.note)]).alloc (.cells #[.int .i64 a.c, .int .i64 a.s, .int .i64 a.k, .string (txt a.acct), .string (txt a.peer), .int .i64 a.sum, .slice M.a M.n M.c, .int .i64 a.per, .int .i64 a.hold, .string (txt a.note)] 30)
  have hb2 := Blk.new (w.alloc (.cells #[.int .i64 a.c, .int .i64 a.s, .int .i64 a.k, .string (txt a.acct), .string (txt a.peer), .int .i64 a.sum, .slice L.a L.n L.c, .int .i64 a.per, .int .i64 a.hold, .string (txt a.note)] 30)) 30 #[.int .i64 a.c, .int .i64 a.s, .int .i64 a.k, .string (txt a.acct), .string (txt a.peer), .int .i64 a.sum, .slice M.a M.n M.c, .int .i64 a.per, .int .i64 a.hold, .string (txt a.note)]
  have hsz : (w.alloc (.cells #[.int .i64 a.c, .int .i64 a.s, .int .i64 a.k, .string (txt a.acct), .string (txt a.peer), .int .i64 a.sum, .slice L.a L.n L.c, .int .i64 a.per, .int .i64 a.hold, .string (txt a.note)] 30)).heap.size = w.heap.size + 1 := by simp
  rw [hsz] at hb2
  clear hsz
  have hRa := Lib.hid ha.rd
  have hRb := Lib.hid hb
  have hal := Lib.hid ha.rd.len
  have hbl := Lib.hid hb.len
  clear ha hb
  replace hm0 := Lib.hid hm0
  replace hb1 := Lib.hid hb1
  replace hb2 := Lib.hid hb2
  replace hab := Lib.hid hab
  by_cases hLM : L.n = M.n
  · have hz : ((L.n : Int) != (M.n : Int)) = false := by simp [hLM]
    replace hLM := Lib.hid hLM
    go_enter Tryz.func57, Tryz.ntmps57
    go_wp2_with fail
    obtain ⟨W0, hW0⟩ : ∃ W0, W0 = (w.alloc (.cells #[.int .i64 a.c, .int .i64 a.s, .int .i64 a.k, .string (txt a.acct), .string (txt a.peer), .int .i64 a.sum, .slice L.a L.n L.c, .int .i64 a.per, .int .i64 a.hold, .string (txt a.note)] 30)).alloc (.cells #[.int .i64 a.c, .int .i64 a.s, .int .i64 a.k, .string (txt a.acct), .string (txt a.peer), .int .i64 a.sum, .slice M.a M.n M.c, .int .i64 a.per, .int .i64 a.hold, .string (txt a.note)] 30) := ⟨_, rfl⟩
    rw [← hW0] at hm0 hb1 hb2 ⊢
    replace hW0 := Lib.hid hW0
    go_loopg [5] L.n (fun k x wr => ∃ j : Nat, x = .int .i64 j ∧ j + k = L.n ∧ (∀ i, i < j → a.legs[i]? = bl[i]?) ∧ ∃ q, wr = W0.drewN q)
    case atStart => exact ⟨0, rfl, by omega, fun i h => absurd h (Nat.not_lt_zero _), 0, rfl⟩
    case round =>
      obtain ⟨j, rfl, hj, hall, q, hq⟩ := hrel
      have c1 : wr.cell? ⟨w.heap.size, 6, none⟩ = some (.slice L.a L.n L.c) := by rw [hq]; exact (hb1.out.drewN q).cell_ rfl
      have c2 : wr.cell? ⟨w.heap.size + 1, 6, none⟩ = some (.slice M.a M.n M.c) := by rw [hq]; exact (hb2.out.drewN q).cell_ rfl
      by_cases hlt : j < L.n
      · have hmq := hm0.out.drewN q
        have hltM : j < M.n := by have := hLM.out; omega
        obtain ⟨b, o, x, e1, -, hx0, a1, a2⟩ := rdl_get (w := W0.drewN q) (Rd.mod0 hRa.out hmq) hlt
        obtain ⟨b', o', y, e2, -, hy0, b1, b2⟩ := rdl_get (w := W0.drewN q) (Rd.mod0 hRb.out hmq) hltM
        rw [← hq] at a1 a2 b1 b2
        rw [e1] at c1
        rw [e2] at c2
        have hne := fun W => neq_lg W x y
        unfold lgV at hne
        have hend := Lib.hid (show Mod none_ w wr by rw [hq]; exact hmq)
        by_cases hxy : x = y
        · have hn : ∀ i, i < j + 1 → a.legs[i]? = bl[i]? := fun i hi => by
            by_cases e : i = j
            · rw [e, hx0, hy0, hxy]
            · exact hall i (by omega)
          simp only [hxy, decide_true, Bool.not_true] at hne a1 a2
          clear hall hmq
          replace hq := Lib.hid hq
          replace hn := Lib.hid hn
          replace e1 := Lib.hid e1
          replace e2 := Lib.hid e2
          replace hxy := Lib.hid hxy
          replace hx0 := Lib.hid hx0
          replace hy0 := Lib.hid hy0
          go_wp2_with (go_quiet (fail))
          go_roundg (gk - 1)
          case measure => omega
          case rel => exact ⟨j + 1, by go_num, by omega, hn.out, _, by rw [hq.out, World.drewN_drewN]⟩
        · rw [decide_eq_false hxy, Bool.not_false] at hne
          clear hall hmq
          replace hq := Lib.hid hq
          replace e1 := Lib.hid e1
          replace e2 := Lib.hid e2
          replace hxy := Lib.hid hxy
          replace hx0 := Lib.hid hx0
          replace hy0 := Lib.hid hy0
          go_wp2_with (go_quiet (fail))
          go_ret
          exact ⟨rfl, hend.out.drewN _⟩
      · exfalso
        apply hab.out
        apply List.ext_getElem?
        intro i
        by_cases hi : i < j
        · exact hall i hi
        · rw [List.getElem?_eq_none (by rw [hal.out]; omega), List.getElem?_eq_none (by rw [hbl.out]; have := hLM.out; omega)]
  · have hz : ((L.n : Int) != (M.n : Int)) = true := by simp; omega
    replace hLM := Lib.hid hLM
    go_enter Tryz.func57, Tryz.ntmps57
    go_wp2_with fail
    go_ret
    exact ⟨rfl, hm0.out⟩
theorem same6_ok (w : World) (a b : Od) (L M : SV) (ha : OdM w a L) (hb : OdM w b M) (hL : L.n ≤ 140737488355328) (hM : M.n ≤ 140737488355328) :
    Calls Tryz.prog 57 #[.agg #[.int .i64 a.c, .int .i64 a.s, .int .i64 a.k, .string (txt a.acct), .string (txt a.peer), .int .i64 a.sum, .slice L.a L.n L.c, .int .i64 a.per, .int .i64 a.hold, .string (txt a.note)], .agg #[.int .i64 b.c, .int .i64 b.s, .int .i64 b.k, .string (txt b.acct), .string (txt b.peer), .int .i64 b.sum, .slice M.a M.n M.c, .int .i64 b.per, .int .i64 b.hold, .string (txt b.note)]] w fun e w' => e = .returned (.bool (decide (a = b))) ∧ Mod none_ w w' := by
  by_cases hab : a = b
  · subst hab
    rw [decide_eq_true rfl]
    exact same6_eq w a L M ha hb hL
  rw [decide_eq_false hab]
  by_cases hf : FieldsO a b
  · have hl : a.legs ≠ b.legs := fun h => hab (od_eq.2 ⟨hf, h⟩)
    have := same6_legs w a b.legs L M ha hb.rd hL hM hl
    obtain ⟨f1, f2, f3, f4, f5, f6, f7, f8, f9⟩ := hf
    rw [f1, f2, f3, f4, f5, f6, f7, f8, f9] at this
    rw [f1, f2, f3, f4, f5, f6, f7, f8, f9]
    exact this
  · exact same6_no w a b L M hf
end Go.Proofs.YtimlfdihodoolaaGreat
/-
  The reference's bare. No condition.
-/
namespace Go.Proofs.YtimlfdihodoolaaGreat
set_option linter.unusedVariables false
set_option linter.unusedSimpArgs false
open Go.RowKit
set_option maxRecDepth 100000 in
set_option maxHeartbeats 8000000 in
theorem rbare_1 (w : World) (o : Od) (L : SV) (hk : o.k = 1) (b : Od) (M : SV) (hb : b = bare1 o) (hM : M = ⟨none, 0, 0⟩) :
    Calls Tryz.prog 75 #[.agg #[.int .i64 o.c, .int .i64 o.s, .int .i64 o.k, .string (txt o.acct), .string (txt o.peer), .int .i64 o.sum, .slice L.a L.n L.c, .int .i64 o.per, .int .i64 o.hold, .string (txt o.note)]] w fun e w' => e = .returned (.agg #[.int .i64 b.c, .int .i64 b.s, .int .i64 b.k, .string (txt b.acct), .string (txt b.peer), .int .i64 b.sum, .slice M.a M.n M.c, .int .i64 b.per, .int .i64 b.hold, .string (txt b.note)]) ∧ Mod none_ w w' := by
  subst hb hM
  unfold bare1
  dsimp only
  rw [hk]
  clear hk
  go_enter Tryz.func75, Tryz.ntmps75
  go_wp2_with fail
  exact ret_order rfl (w.heap.size + 1) _ rfl (Blk.alloc (heap_alloc2_new _ _ _) _) rfl rfl ⟨rfl, (((Mod.refl none_ w).alloc _).alloc _).alloc _⟩
set_option maxRecDepth 100000 in
set_option maxHeartbeats 8000000 in
theorem rbare_2 (w : World) (o : Od) (L : SV) (hk : o.k = 2) (b : Od) (M : SV) (hb : b = bare2 o) (hM : M = L) :
    Calls Tryz.prog 75 #[.agg #[.int .i64 o.c, .int .i64 o.s, .int .i64 o.k, .string (txt o.acct), .string (txt o.peer), .int .i64 o.sum, .slice L.a L.n L.c, .int .i64 o.per, .int .i64 o.hold, .string (txt o.note)]] w fun e w' => e = .returned (.agg #[.int .i64 b.c, .int .i64 b.s, .int .i64 b.k, .string (txt b.acct), .string (txt b.peer), .int .i64 b.sum, .slice M.a M.n M.c, .int .i64 b.per, .int .i64 b.hold, .string (txt b.note)]) ∧ Mod none_ w w' := by
  subst hb hM
  unfold bare2
  dsimp only
  rw [hk]
  clear hk
  go_enter Tryz.func75, Tryz.ntmps75
  go_wp2_with fail
  exact ret_order rfl (w.heap.size + 1) _ rfl (Blk.alloc (heap_alloc2_new _ _ _) _) rfl rfl ⟨rfl, (((Mod.refl none_ w).alloc _).alloc _).alloc _⟩
set_option maxRecDepth 100000 in
set_option maxHeartbeats 8000000 in
theorem rbare_3 (w : World) (o : Od) (L : SV) (hk : o.k = 3) (b : Od) (M : SV) (hb : b = bare3 o) (hM : M = ⟨none, 0, 0⟩) :
    Calls Tryz.prog 75 #[.agg #[.int .i64 o.c, .int .i64 o.s, .int .i64 o.k, .string (txt o.acct), .string (txt o.peer), .int .i64 o.sum, .slice L.a L.n L.c, .int .i64 o.per, .int .i64 o.hold, .string (txt o.note)]] w fun e w' => e = .returned (.agg #[.int .i64 b.c, .int .i64 b.s, .int .i64 b.k, .string (txt b.acct), .string (txt b.peer), .int .i64 b.sum, .slice M.a M.n M.c, .int .i64 b.per, .int .i64 b.hold, .string (txt b.note)]) ∧ Mod none_ w w' := by
  subst hb hM
  unfold bare3
  dsimp only
  rw [hk]
  clear hk
  go_enter Tryz.func75, Tryz.ntmps75
  go_wp2_with fail
  exact ret_order rfl (w.heap.size + 1) _ rfl (Blk.alloc (heap_alloc2_new _ _ _) _) rfl rfl ⟨rfl, (((Mod.refl none_ w).alloc _).alloc _).alloc _⟩
set_option maxRecDepth 100000 in
set_option maxHeartbeats 8000000 in
theorem rbare_4 (w : World) (o : Od) (L : SV) (hk : o.k = 4) (b : Od) (M : SV) (hb : b = bare4 o) (hM : M = ⟨none, 0, 0⟩) :
    Calls Tryz.prog 75 #[.agg #[.int .i64 o.c, .int .i64 o.s, .int .i64 o.k, .string (txt o.acct), .string (txt o.peer), .int .i64 o.sum, .slice L.a L.n L.c, .int .i64 o.per, .int .i64 o.hold, .string (txt o.note)]] w fun e w' => e = .returned (.agg #[.int .i64 b.c, .int .i64 b.s, .int .i64 b.k, .string (txt b.acct), .string (txt b.peer), .int .i64 b.sum, .slice M.a M.n M.c, .int .i64 b.per, .int .i64 b.hold, .string (txt b.note)]) ∧ Mod none_ w w' := by
  subst hb hM
  unfold bare4
  dsimp only
  rw [hk]
  clear hk
  go_enter Tryz.func75, Tryz.ntmps75
  go_wp2_with fail
  exact ret_order rfl (w.heap.size + 1) _ rfl (Blk.alloc (heap_alloc2_new _ _ _) _) rfl rfl ⟨rfl, (((Mod.refl none_ w).alloc _).alloc _).alloc _⟩
set_option maxRecDepth 100000 in
set_option maxHeartbeats 8000000 in
theorem rbare_5 (w : World) (o : Od) (L : SV) (hk : o.k = 5) (b : Od) (M : SV) (hb : b = bare5 o) (hM : M = ⟨none, 0, 0⟩) :
    Calls Tryz.prog 75 #[.agg #[.int .i64 o.c, .int .i64 o.s, .int .i64 o.k, .string (txt o.acct), .string (txt o.peer), .int .i64 o.sum, .slice L.a L.n L.c, .int .i64 o.per, .int .i64 o.hold, .string (txt o.note)]] w fun e w' => e = .returned (.agg #[.int .i64 b.c, .int .i64 b.s, .int .i64 b.k, .string (txt b.acct), .string (txt b.peer), .int .i64 b.sum, .slice M.a M.n M.c, .int .i64 b.per, .int .i64 b.hold, .string (txt b.note)]) ∧ Mod none_ w w' := by
  subst hb hM
  unfold bare5
  dsimp only
  rw [hk]
  clear hk
  go_enter Tryz.func75, Tryz.ntmps75
  go_wp2_with fail
  exact ret_order rfl (w.heap.size + 1) _ rfl (Blk.alloc (heap_alloc2_new _ _ _) _) rfl rfl ⟨rfl, (((Mod.refl none_ w).alloc _).alloc _).alloc _⟩
set_option maxRecDepth 100000 in
set_option maxHeartbeats 8000000 in
theorem rbare_6 (w : World) (o : Od) (L : SV) (hk : o.k = 6) (b : Od) (M : SV) (hb : b = bare6 o) (hM : M = ⟨none, 0, 0⟩) :
    Calls Tryz.prog 75 #[.agg #[.int .i64 o.c, .int .i64 o.s, .int .i64 o.k, .string (txt o.acct), .string (txt o.peer), .int .i64 o.sum, .slice L.a L.n L.c, .int .i64 o.per, .int .i64 o.hold, .string (txt o.note)]] w fun e w' => e = .returned (.agg #[.int .i64 b.c, .int .i64 b.s, .int .i64 b.k, .string (txt b.acct), .string (txt b.peer), .int .i64 b.sum, .slice M.a M.n M.c, .int .i64 b.per, .int .i64 b.hold, .string (txt b.note)]) ∧ Mod none_ w w' := by
  subst hb hM
  unfold bare6
  dsimp only
  rw [hk]
  clear hk
  go_enter Tryz.func75, Tryz.ntmps75
  go_wp2_with fail
  exact ret_order rfl (w.heap.size + 1) _ rfl (Blk.alloc (heap_alloc2_new _ _ _) _) rfl rfl ⟨rfl, (((Mod.refl none_ w).alloc _).alloc _).alloc _⟩
set_option maxRecDepth 100000 in
set_option maxHeartbeats 8000000 in
theorem rbare_7 (w : World) (o : Od) (L : SV) (hk : o.k = 7) (b : Od) (M : SV) (hb : b = bare7 o) (hM : M = ⟨none, 0, 0⟩) :
    Calls Tryz.prog 75 #[.agg #[.int .i64 o.c, .int .i64 o.s, .int .i64 o.k, .string (txt o.acct), .string (txt o.peer), .int .i64 o.sum, .slice L.a L.n L.c, .int .i64 o.per, .int .i64 o.hold, .string (txt o.note)]] w fun e w' => e = .returned (.agg #[.int .i64 b.c, .int .i64 b.s, .int .i64 b.k, .string (txt b.acct), .string (txt b.peer), .int .i64 b.sum, .slice M.a M.n M.c, .int .i64 b.per, .int .i64 b.hold, .string (txt b.note)]) ∧ Mod none_ w w' := by
  subst hb hM
  unfold bare7
  dsimp only
  rw [hk]
  clear hk
  go_enter Tryz.func75, Tryz.ntmps75
  go_wp2_with fail
  exact ret_order rfl (w.heap.size + 1) _ rfl (Blk.alloc (heap_alloc2_new _ _ _) _) rfl rfl ⟨rfl, (((Mod.refl none_ w).alloc _).alloc _).alloc _⟩
end Go.Proofs.YtimlfdihodoolaaGreat
