import Derived.Test.YtimlfdihodoolaaGreatZp2
import Derived.Test.YtimlfdihodoolaaGreatZp3
import Derived.Deep.DeepCutAuto
import Derived.Test.YtimlfdihodoolaaGreatZp1
import Derived.BigQuiet
import Derived.Deep.LoopGhost
/-
  The contracts of pack.New, pack.Text, pack.Nums. No condition.
-/
namespace Go.Proofs.YtimlfdihodoolaaGreat
set_option linter.unusedVariables false
set_option linter.unusedSimpArgs false
open Go.RowKit
theorem u8size : (Tryz.prog.info? 5).map (·.size) = some 1 := by kernel_rfl
def NewPost (w : World) (l : List UInt8) (en : Ending) (w' : World) : Prop := ∃ g B, en = .returned (.pointer (some ⟨g, 0, none⟩)) ∧ Rdr w' g B l 0 ∧ w.heap.size ≤ g ∧ w.heap.size ≤ B ∧ B < w'.heap.size ∧ Mod none_ w w'
set_option maxRecDepth 100000 in
theorem new_ok (w : World) (A : Option Addr) (n c : Nat) (l : List UInt8) (h : RdB w A n l) (hn : n ≤ 140737488351232) : Calls Tryz.prog 17 #[.slice A n c] w (NewPost w l) := by
  have hl := h.len
  subst hl
  have hmk := make_run (P := Tryz.prog) w 22 5 _ _ l.length Tryz.underlying22 u8info rfl (by omega) (by omega)
  replace h := Lib.hid h
  go_enter Tryz.func17, Tryz.ntmps17
  go_wp2_with (show wpList _ _ _ (⟨some 14, _, _, _, _, _⟩ :: _) _ _; go_loud (refine copy_all (cur := madeCells #[.int .u8 0] l.length) (xs := bvs l) rfl (.tmp 12) (.tmp 13) 22 22 5 rfl Tryz.underlying22 u8size rfl rfl ?c1 ?c2 ?c3 ?c4 ?c5 ?_))
  case c1 => exact (Blk.new w _ _).alloc _
  case c2 => exact size_madeCells _ _
  case c3 => unfold maxLen; omega
  case c4 => exact h.out.mod0 (((Mod.refl none_ w).alloc _).alloc _)
  case c5 => exact bvs_one l
  intro w' ho hm
  have hb : Blk w' (w.heap.size + 1) 90 #[.slice (some ⟨w.heap.size, 0, none⟩) l.length l.length, .int .i64 ((0 : Nat) : Int)] := by
    have := Blk.new (w.alloc (.cells (madeCells #[.int .u8 0] l.length) 5)) 90 #[.slice (some ⟨w.heap.size, 0, none⟩) l.length l.length, .int .i64 ((0 : Nat) : Int)]
    simp only [World.size_alloc] at this
    exact this.mod hm (by simp)
  have hsz := hm.size
  simp only [World.size_alloc] at hsz
  replace ho := Lib.hid ho
  replace hm := Lib.hid hm
  replace hb := Lib.hid hb
  go_wp2_with fail
  go_ret
  refine ⟨w.heap.size + 1, w.heap.size, rfl, ⟨_, _, _, hb.out, ho.out.rd, by omega, by omega, ?_, by omega⟩, by omega, by omega, by omega, ?_⟩
  · rintro j ⟨a, ha, rfl⟩; cases ha; rfl
  · exact (((Mod.refl none_ w).alloc _).alloc _).then hm.out (fun i hi hk => by omega)
def BytesPost (w : World) (l : List UInt8) (e : Ending) (w' : World) : Prop := ∃ A c, e = .returned (.slice A l.length c) ∧ OwB w' 5 A l.length c l ∧ Fresh w A ∧ Mod none_ w w'
/-- A text's bytes. -/
def txtB (s : List UInt8) : List UInt8 := vb (zig (s.length : Int)) ++ s
theorem zig_nat (n : Nat) : zig (n : Int) = 2 * n := by unfold zig; rw [if_pos (by omega)]; omega
theorem NumPost.nat {w : World} {n : Int} {e : Ending} {w' : World} (h : NumPost w n e w') : ∃ A k c, e = .returned (.slice A k c) ∧ OwB w' 5 A k c (vb (zig n)) ∧ Fresh w A ∧ Mod none_ w w' ∧ k ≤ 10 := h
set_option maxRecDepth 100000 in
theorem text_ok (w : World) (s : List UInt8) (hs : s.length ≤ 1000000000000) : Calls Tryz.prog 60 #[.string (txt s)] w (BytesPost w (txtB s)) := by
  have hsz : (txt s).size = s.length := by simp [txt, ByteArray.size]
  go_enter Tryz.func60, Tryz.ntmps60
  go_wp2_with fail
  refine (num_ok _ (s.length : Int) (by omega) (by omega)).mono ?_
  rintro e w1 ⟨A, k, c, rfl, ho, hf, hm, hk⟩
  dsimp only
  replace ho := Lib.hid ho
  replace hf := Lib.hid hf
  replace hm := Lib.hid hm
  replace hsz := Lib.hid hsz
  go_wp2_with (show wpList _ _ _ (⟨some 7, _, _, _, _, _⟩ :: _) _ _; go_loud (refine conv_b rfl (.tmp 6) rfl rfl ?_; intro A2 c2 w2 hr2 hf2 hc2 hm2 hl2; replace hr2 := Lib.hid hr2; replace hf2 := Lib.hid hf2; replace hm2 := Lib.hid hm2; replace hl2 := Lib.hid hl2))
  refine (concat2_ok _ w2.heap.size A A2 k s.length c c2 _ _ (rdn w2 _ 1 2 _ #[.slice A k c, .slice A2 s.length c2] (0, 0) rfl rfl) ((ho.out.rd.mod0 hm2.out).alloc _) (Rd.alloc hr2.out _) (by omega)).mono ?_
  rintro e w3 ⟨A3, c3, rfl, ho3, hf3, hm3⟩
  dsimp only
  have hlen := ho3.len
  rw [List.length_append] at hlen
  have hmm := (((hm.out.trans hm2.out).alloc (.cells #[.slice A k c, .slice A2 s.length c2] 22)))
  replace ho3 := Lib.hid ho3
  replace hf3 := Lib.hid hf3
  replace hm3 := Lib.hid hm3
  replace hlen := Lib.hid hlen
  replace hmm := Lib.hid hmm
  go_wp2_with fail
  go_ret
  have el : (txtB s).length = k + s.length := by have := hlen.out; rw [txtB, List.length_append]; omega
  refine ⟨A3, c3, by rw [el] <;> rfl, by rw [el]; exact ho3.out, hf3.out.later hmm.out.size, hmm.out.trans hm3.out⟩
/-- A list's bytes. -/
def numsB (xs : List Int) : List UInt8 := vb (zig (xs.length : Int)) ++ xs.flatMap fun x => vb (zig x)
def i64In (xs : List Int) : Prop := ∀ x ∈ xs, -9223372036854775808 ≤ x ∧ x ≤ 9223372036854775807
theorem rdi_at {w : World} {A : Option Addr} {n : Nat} {xs : List Int} (h : RdI w A n xs) {j : Nat} (hj : j < n) : ∃ b o x, A = some ⟨b, o, none⟩ ∧ xs[j]? = some x ∧ w.cell? ⟨b, o + j, none⟩ = some (.int .i64 x) := by
  obtain ⟨b, o, e, hc⟩ := Rd.form h (by omega) (by omega)
  have hl : j < xs.length := by rw [h.len]; exact hj
  exact ⟨b, o, xs[j], e, List.getElem?_eq_getElem hl, hc j _ (ivs_get hl)⟩
def NmRel (w : World) (xs : List Int) (j : Nat) (v : Value) (wr : World) : Prop :=
  ∃ A t c, v = .slice A t c ∧ OwB wr 5 A t c (vb (zig (xs.length : Int)) ++ (xs.take j).flatMap fun x => vb (zig x)) ∧ Fresh w A ∧ Mod none_ w wr ∧ t ≤ 10 * (j + 1)
end Go.Proofs.YtimlfdihodoolaaGreat
/-
  The contract of pack.Reader.Num. No condition.
-/
namespace Go.Proofs.YtimlfdihodoolaaGreat
set_option linter.unusedVariables false
set_option linter.unusedSimpArgs false
open Go.RowKit
theorem rdb_form {w : World} {A : Option Addr} {n : Nat} {l : List UInt8} (h : RdB w A n l) (hn : 0 < n) : ∃ b o, A = some ⟨b, o, none⟩ ∧ ∀ k (hk : k < l.length), w.cell? ⟨b, o + k, none⟩ = some (.int .u8 (l[k].toNat : Int)) := by
  obtain ⟨b, o, e, hc⟩ := Rd.form h hn (by omega)
  exact ⟨b, o, e, fun k hk => hc k _ (bvs_get hk)⟩
def lng (n k x : Nat) : Nat := if k + 1 = n ∧ 128 ≤ x ∧ k < 10 then 4 else 3
set_option maxRecDepth 100000 in
theorem long_ok (w : World) (g b o n c k x : Nat) (E : Value) (hb : Blk w g 90 #[.slice (some ⟨b, o, none⟩) n c, E]) (hk : k < n) (hn : n ≤ 9223372036854775807) (hx : w.cell? ⟨b, o + k, none⟩ = some (.int .u8 (x : Int))) :
    Calls Tryz.prog 91 #[.pointer (some ⟨g, 0, none⟩), .int .i64 (k : Int)] w fun en w' => en = .returned (.int .i64 (lng n k x : Nat)) ∧ w = w' := by
  obtain ⟨h1, h2, h3, h4⟩ := hb.two
  replace hb := Lib.hid hb
  by_cases c1 : k + 1 = n
  · obtain rfl : n = k + 1 := by omega
    clear c1
    by_cases c2 : 128 ≤ x
    · by_cases c3 : k < 10
      · have r := Lib.hid (show lng (k + 1) k x = 4 by simp [lng, *])
        go_enter Tryz.func91, Tryz.ntmps91
        go_wp2
        go_ret
        exact ⟨by rw [r.out] <;> rfl, rfl⟩
      · have r := Lib.hid (show lng (k + 1) k x = 3 by simp [lng, *])
        go_enter Tryz.func91, Tryz.ntmps91
        go_wp2
        go_ret
        exact ⟨by rw [r.out] <;> rfl, rfl⟩
    · have r := Lib.hid (show lng (k + 1) k x = 3 by simp [lng, *])
      go_enter Tryz.func91, Tryz.ntmps91
      go_wp2
      go_ret
      exact ⟨by rw [r.out] <;> rfl, rfl⟩
  · have r := Lib.hid (show lng n k x = 3 by simp [lng, c1])
    have hd : ((k : Int) == (n : Int) - 1) = false := by simp; omega
    go_enter Tryz.func91, Tryz.ntmps91
    go_wp2
    go_ret
    exact ⟨by rw [r.out] <;> rfl, rfl⟩
/-- What Reader.Num tells: the number, the error, what is left. -/
def rn (l : List UInt8) (e : Nat) : Int × Nat × List UInt8 :=
  if e ≠ 0 then (0, e, l) else if (rdNum l).1 = 0 then (unzig (rdNum l).2.1, 0, l.drop (rdNum l).2.2) else (0, (rdNum l).1, [])
def RPost (w : World) (g B : Nat) (r : Int × Nat × List UInt8) (en : Ending) (w' : World) : Prop :=
  en = .returned (.tuple #[.int .i64 r.1, .int .i64 (r.2.1 : Int)]) ∧ Rdr w' g B r.2.2 r.2.1 ∧ Mod (only g) w w'
set_option maxRecDepth 100000 in
theorem rnum_nil (w : World) : Calls Tryz.prog 71 #[.pointer none] w fun en w' => en = .returned (.tuple #[.int .i64 0, .int .i64 1]) ∧ w = w' := by
  go_enter Tryz.func71, Tryz.ntmps71
  go_wp2
  go_ret2
  exact ⟨rfl, rfl⟩
theorem an128 : ∀ x : Nat, x < 256 → bits .andNot .u8 (x : Int) 128 = ((x % 128 : Nat) : Int) := by decide +kernel
theorem bo64 (a b : Nat) (ha : a < 18446744073709551616) (hb : b < 18446744073709551616) : bits .or .u64 (a : Int) (b : Int) = ((a ||| b : Nat) : Int) := by
  have hx : a ||| b < 2 ^ 64 := Nat.or_lt_two_pow (by omega) (by omega)
  show IntKind.u64.wrap ((BitVec.ofInt 64 (a : Int) ||| BitVec.ofInt 64 (b : Int)).toNat : Int) = _
  rw [BitVec.toNat_or, ofInt_nat 64 a (by omega), ofInt_nat 64 b (by omega), IntKind.wrap_u64]
  omega
theorem wrap_nat (q : Nat) (h : q < 18446744073709551616) : IntKind.u64.wrap (q : Int) = (q : Int) := by rw [IntKind.wrap_u64]; omega
theorem step_bits (a k x : Nat) (ha : a < 2 ^ (7 * k)) (hx : x < 256) (hk : k ≤ 9) (h9 : k = 9 → x ≤ 1) :
    bits .or .u64 (a : Int) (IntKind.u64.wrap (IntKind.u64.wrap (bits .andNot .u8 (x : Int) 128) * 2 ^ (7 * k))) = ((a + x % 128 * 2 ^ (7 * k) : Nat) : Int) := by
  have hp : x % 128 * 2 ^ (7 * k) < 18446744073709551616 := by
    by_cases e : k = 9
    · subst e
      have := h9 rfl
      have : x % 128 ≤ 1 := by omega
      have := Nat.mul_le_mul_right (2 ^ (7 * 9)) this
      have e63 : 2 ^ (7 * 9) = 9223372036854775808 := by decide
      omega
    · have h2 : 2 ^ (7 * k) ≤ 2 ^ 56 := Nat.pow_le_pow_right (by omega) (by omega)
      have e56 : 2 ^ 56 = 72057594037927936 := by decide
      have := Nat.mul_le_mul (show x % 128 ≤ 127 by omega) h2
      omega
  have ha2 : a < 18446744073709551616 := Nat.lt_of_lt_of_le ha (Nat.le_trans (Nat.pow_le_pow_right (n := 2) (by omega) (show 7 * k ≤ 64 by omega)) (by decide))
  rw [an128 x hx, wrap_nat _ (by omega), show (2 : Int) ^ (7 * k) = ((2 ^ (7 * k) : Nat) : Int) by simp, ← Int.natCast_mul, wrap_nat _ hp, bo64 _ _ ha2 hp, Nat.or_comm, or_add _ _ _ ha, Nat.add_comm]
theorem rdF_at {l : List UInt8} {k x a : Nat} (hk : k < l.length) (hx : l[k].toNat = x) : rdF a k (l.drop k) =
    (if k = 10 ∨ (k = 9 ∧ 1 < x) then (if l.drop (k + 1) = [] ∧ 128 ≤ x ∧ k < 10 then 4 else 3, 0, 0)
    else if x < 128 ∧ x = 0 ∧ 0 < k then (3, 0, 0)
    else if x < 128 then (0, a + x * 2 ^ (7 * k), k + 1)
    else rdF (a + (x - 128) * 2 ^ (7 * k)) (k + 1) (l.drop (k + 1))) := by
  rw [List.drop_eq_getElem_cons hk, rdF, hx]
theorem rest_set {w : World} {g B b o n c : Nat} {l : List UInt8} {k q d : Nat} (hb : Blk w g 90 #[.slice (some ⟨b, o, none⟩) n c, .int .i64 ((0 : Nat) : Int)]) (hr : RdB w (some ⟨b, o, none⟩) l.length l)
    (hA : ∀ j, fp (some (⟨b, o, none⟩ : Addr)) j → j = B) (hB : g ≠ B) (hl : l.length = k + 1 + q) (hqd : q ≤ d) (hc : k + 1 + d ≤ 9223372036854775807) (A' : Option Addr) (m c' : Nat) (h1 : A' = some ⟨b, o, none⟩ ∧ d = 0 ∨ A' = some ⟨b, o + (k + 1), none⟩) (h2 : m = q) (h3 : c' = d) :
    Rdr (w.setCell ⟨g, 0, none⟩ (.slice A' m c')) g B (l.drop (k + 1)) 0 := by
  subst h2 h3
  have hlt : ∀ j, fp A' j → j = B := by
    rintro j ⟨a, ha, rfl⟩
    rcases h1 with ⟨h, _⟩ | h <;> (rw [h] at ha; cases ha; exact hA _ ⟨_, rfl, rfl⟩)
  have h4 : RdB w A' m (l.drop (k + 1)) := by
    rcases h1 with ⟨rfl, h0⟩ | rfl
    · have : m = 0 := by omega
      subst this
      rw [List.drop_eq_nil_of_le (by omega)]
      exact ⟨by simp [bvs], fun h => by omega⟩
    · have := rdb_drop hr (k := k + 1) (c := l.length + 1) (by omega) (by omega)
      rw [if_neg (by omega)] at this
      simp only [Option.map_some] at this
      have e : (⟨b, o, none⟩ : Addr).add (k + 1) = ⟨b, o + (k + 1), none⟩ := by unfold Addr.add; rw [if_neg (by omega)]
      rw [e, show l.length - (k + 1) = m by omega] at this
      exact this
  refine ⟨A', m, c', hb.set_ 0 _, Rd.mod h4 ((Mod.refl (only g) w).set_only 0 _) ?_, hqd, by omega, hlt, hB⟩
  intro j hj hg
  exact hB (hg ▸ hlt j hj)
def RnRel (l : List UInt8) (k a : Nat) : Prop := k ≤ l.length ∧ k ≤ 9 ∧ a < 2 ^ (7 * k) ∧ rdF a k (l.drop k) = rdNum l
set_option maxRecDepth 100000 in
set_option maxHeartbeats 2000000 in
theorem rnum_ok (w : World) (g B e : Nat) (l : List UInt8) (h : Rdr w g B l e) : Calls Tryz.prog 71 #[.pointer (some ⟨g, 0, none⟩)] w (RPost w g B (rn l e)) := by
  have hall := Lib.hid h
  obtain ⟨A, n, c, hb, hr, hnc, hc, hA, hB⟩ := h
  obtain ⟨h1, h2, h3, h4⟩ := hb.two
  have hl := hr.len
  subst hl
  replace hr := Lib.hid hr
  replace hb := Lib.hid hb
  replace hA := Lib.hid hA
  by_cases he : e = 0
  · subst he
    go_enter Tryz.func71, Tryz.ntmps71
    go_wp2_with fail
    go_loop [4, 24] (fun m i => ∃ k a : Nat, i = .int .i64 (k : Int) ∧ m = .int .u64 (a : Int) ∧ RnRel l k a) (fun _ i => l.length - (intOf i).toNat)
    case atStart => exact ⟨0, 0, rfl, rfl, by omega, by omega, by simp, by simp [rdNum]⟩
    case round =>
      obtain ⟨k, a, rfl, rfl, hk, hk9, ha, hrd⟩ := hrel
      replace ha := Lib.hid ha
      replace hrd := Lib.hid hrd
      by_cases hlt : k < l.length
      · obtain ⟨b, o, rfl, hcell⟩ := rdb_form hr.out (by omega)
        have hx := hcell k hlt
        clear hcell
        have hx8 := l[k].toNat_lt
        have hst := Lib.hid (rdF_at (a := a) hlt rfl)
        generalize l[k].toNat = x at *
        by_cases hbad : k = 9 ∧ 1 < x
        · obtain ⟨rfl, hx1⟩ := hbad
          have e3 : Hid (rn l 0 = (0, lng l.length 9 x, [])) := by
            have := hst.out
            rw [if_pos (.inr ⟨rfl, hx1⟩), hrd.out] at this
            refine Lib.hid ?_
            unfold rn
            rw [if_neg (by omega), this]
            have e4 : l.drop (9 + 1) = [] ↔ 9 + 1 = l.length := by
              rw [List.drop_eq_nil_iff]; omega
            simp only [e4, lng]
            split <;> simp
          go_wp2_with fail
          refine (long_ok _ g b o l.length c 9 x _ hb.out hlt (by omega) hx).mono ?_
          rintro en w1 ⟨rfl, rfl⟩
          go_wp2_with fail
          refine (fail_ok _ g B _ _ _ hb.out hB).mono ?_
          rintro en w1 ⟨rfl, hR, hm⟩
          replace hR := Lib.hid hR
          replace hm := Lib.hid hm
          go_wp2_with fail
          go_ret2
          rw [e3.out]
          exact ⟨rfl, hR.out, hm.out⟩
        · have hn10 : ¬ (k = 10 ∨ (k = 9 ∧ 1 < x)) := by omega
          have hst2 := hst.out
          rw [if_neg hn10, hrd.out] at hst2
          have hbits := step_bits a k x ha.out hx8 hk9 (by omega)
          have k1 : ((k : Int) == 10) = false := by simp; omega
          have k2 : (((k : Int) == 9) && decide (1 < x)) = false := by simp; omega
          by_cases h0 : x = 0 ∧ 0 < k
          · obtain ⟨rfl, hk0⟩ := h0
            have e3 : Hid (rn l 0 = (0, 3, [])) := by
              rw [if_pos ⟨by omega, rfl, hk0⟩] at hst2
              refine Lib.hid ?_
              unfold rn
              rw [if_neg (by omega), hst2]
              simp
            clear hst2 hbits
            by_cases k9 : k = 9
            · subst k9
              go_wp2_with fail
              refine (fail_ok _ g B 3 _ _ hb.out hB).mono ?_
              rintro en w1 ⟨rfl, hR, hm⟩
              replace hR := Lib.hid hR
              replace hm := Lib.hid hm
              go_wp2_with fail
              go_ret2
              rw [e3.out]
              exact ⟨rfl, hR.out, hm.out⟩
            · have k9' : ((k : Int) == 9) = false := by simp; omega
              go_wp2_with fail
              refine (fail_ok _ g B 3 _ _ hb.out hB).mono ?_
              rintro en w1 ⟨rfl, hR, hm⟩
              replace hR := Lib.hid hR
              replace hm := Lib.hid hm
              go_wp2_with fail
              go_ret2
              rw [e3.out]
              exact ⟨rfl, hR.out, hm.out⟩
          · rw [if_neg (by omega)] at hst2
            by_cases hlast : x < 128
            · rw [if_pos hlast] at hst2
              have hxx : x % 128 = x := by omega
              obtain ⟨y, hy⟩ : ∃ y, y = a + x % 128 * 2 ^ (7 * k) := ⟨_, rfl⟩
              rw [← hy] at hbits
              rw [hxx] at hy
              rw [← hy] at hst2
              have hy64 : y < 18446744073709551616 := (rdNum_once hst2).2.2.2
              have e3 : Hid (rn l 0 = (unzig y, 0, l.drop (k + 1))) := by
                refine Lib.hid ?_
                unfold rn
                rw [if_neg (by omega), hst2]
                simp
              clear hxx
              obtain ⟨q, hq⟩ : ∃ q, l.length = k + 1 + q := ⟨l.length - (k + 1), by omega⟩
              obtain ⟨d, rfl⟩ : ∃ d, c = k + 1 + d := ⟨c - (k + 1), by omega⟩
              have hfin := Lib.hid (@rest_set w g B b o _ _ l k q d hb.out hr.out hA.out hB (by omega) (by omega) (by omega))
              replace hst2 := Lib.hid hst2
              replace hy := Lib.hid hy
              replace hy64 := Lib.hid hy64
              rw [hq] at h1
              have hqd : q ≤ d := by omega
              replace hq := Lib.hid hq
              by_cases x0 : x = 0
              · subst x0
                have hk0 : k = 0 := by omega
                have hk1 : decide ((0 : Int) < (k : Int)) = false := by simp; omega
                have k3 : ((k : Int) == 9) = false := by simp; omega
                rw [show (((0 : Nat) : Int)) = 0 from rfl] at hbits hx
                replace hk0 := Lib.hid hk0
                by_cases d0 : d = 0
                · subst d0
                  go_wp2_with fail
                  refine (unfold_ok _ y hy64.out).mono ?_
                  rintro en w2 ⟨rfl, rfl⟩
                  go_wp2_with fail
                  go_ret2
                  rw [e3.out]
                  exact ⟨rfl, hfin.out _ _ _ (.inl (by simp)) (by omega) (by omega), (Mod.refl _ w).set_only 0 _⟩
                · go_wp2_with fail
                  refine (unfold_ok _ y hy64.out).mono ?_
                  rintro en w2 ⟨rfl, rfl⟩
                  go_wp2_with fail
                  go_ret2
                  rw [e3.out]
                  exact ⟨rfl, hfin.out _ _ _ (.inr rfl) (by omega) (by omega), (Mod.refl _ w).set_only 0 _⟩
              · have x1 : ((x : Int) == 0) = false := by simp; omega
                by_cases k9 : k = 9
                · subst k9
                  simp only [Nat.reduceMul, Nat.reduceAdd, Int.reducePow] at hbits h1
                  by_cases d0 : d = 0
                  · subst d0
                    go_wp2_with fail
                    refine (unfold_ok _ y hy64.out).mono ?_
                    rintro en w2 ⟨rfl, rfl⟩
                    go_wp2_with fail
                    go_ret2
                    rw [e3.out]
                    exact ⟨rfl, hfin.out _ _ _ (.inl (by simp)) (by omega) (by omega), (Mod.refl _ w).set_only 0 _⟩
                  · go_wp2_with fail
                    refine (unfold_ok _ y hy64.out).mono ?_
                    rintro en w2 ⟨rfl, rfl⟩
                    go_wp2_with fail
                    go_ret2
                    rw [e3.out]
                    exact ⟨rfl, hfin.out _ _ _ (.inr rfl) (by omega) (by omega), (Mod.refl _ w).set_only 0 _⟩
                · have k3 : ((k : Int) == 9) = false := by simp; omega
                  by_cases d0 : d = 0
                  · subst d0
                    go_wp2_with fail
                    refine (unfold_ok _ y hy64.out).mono ?_
                    rintro en w2 ⟨rfl, rfl⟩
                    go_wp2_with fail
                    go_ret2
                    rw [e3.out]
                    exact ⟨rfl, hfin.out _ _ _ (.inl (by simp)) (by omega) (by omega), (Mod.refl _ w).set_only 0 _⟩
                  · go_wp2_with fail
                    refine (unfold_ok _ y hy64.out).mono ?_
                    rintro en w2 ⟨rfl, rfl⟩
                    go_wp2_with fail
                    go_ret2
                    rw [e3.out]
                    exact ⟨rfl, hfin.out _ _ _ (.inr rfl) (by omega) (by omega), (Mod.refl _ w).set_only 0 _⟩
            · rw [if_neg hlast] at hst2
              have g9 : k < 9 := by omega
              have k3 : ((k : Int) == 9) = false := by simp; omega
              have hnx : Hid (RnRel l (k + 1) (a + x % 128 * 2 ^ (7 * k))) := by
                refine Lib.hid ⟨by omega, by omega, ?_, ?_⟩
                · have := ha.out
                  have e : 2 ^ (7 * (k + 1)) = 128 * 2 ^ (7 * k) := by rw [show 7 * (k + 1) = 7 + 7 * k by omega, Nat.pow_add]
                  have := Nat.mul_le_mul_right (2 ^ (7 * k)) (show x % 128 ≤ 127 by omega)
                  omega
                · rw [show x % 128 = x - 128 by omega]; exact hst2.symm
              replace hst2 := Lib.hid hst2
              go_wp2_with fail
              refine ⟨⟨k + 1, _, by go_num, by simp, hnx.out⟩, ?_⟩
              simp [intOf]; omega
      · have e3 : Hid (rn l 0 = (0, 4, [])) := by
          have := hrd.out
          rw [List.drop_eq_nil_of_le (by omega), rdF] at this
          refine Lib.hid ?_
          unfold rn
          rw [if_neg (by omega), ← this]
          simp
        go_wp2_with fail
        refine (fail_ok _ g B 4 _ _ hb.out hB).mono ?_
        rintro en w1 ⟨rfl, hR, hm⟩
        replace hR := Lib.hid hR
        replace hm := Lib.hid hm
        go_wp2_with fail
        go_ret2
        rw [e3.out]
        exact ⟨rfl, hR.out, hm.out⟩
  · have he1 : ((e : Int) != 0) = true := by simp; omega
    go_enter Tryz.func71, Tryz.ntmps71
    go_wp2_with (go_quiet (fail))
    go_ret2
    have : rn l e = (0, e, l) := by simp [rn, he]
    rw [this]
    exact ⟨rfl, hall.out.mod0 ((Mod.refl none_ w).drewN _), (Mod.refl _ w).drewN _⟩
end Go.Proofs.YtimlfdihodoolaaGreat
/-
  The contracts of pack.Reader.Range and pack.Reader.Text. No condition.
-/
namespace Go.Proofs.YtimlfdihodoolaaGreat
set_option linter.unusedVariables false
set_option linter.unusedSimpArgs false
open Go.RowKit
/-- What Range tells. -/
def rg (lo hi : Int) (l : List UInt8) (e : Nat) : Int × Nat × List UInt8 :=
  if (rn l e).2.1 ≠ 0 then (0, (rn l e).2) else if (rn l e).1 < lo ∨ hi < (rn l e).1 then (0, 3, []) else rn l e
theorem Rdr.blk {w : World} {g B : Nat} {l : List UInt8} {e : Nat} (h : Rdr w g B l e) : ∃ a b, Blk w g 90 #[a, b] ∧ g ≠ B := by
  obtain ⟨A, n, c, a1, _, _, _, _, a6⟩ := h
  exact ⟨_, _, a1, a6⟩
theorem Mod.only_trans {w w1 w2 : World} {g : Nat} (h : Mod (only g) w w1) (k : Mod (only g) w1 w2) : Mod (only g) w w2 := h.trans k
theorem fail_r (w : World) (g B e e0 : Nat) (l : List UInt8) (h : Rdr w g B l e0) : Calls Tryz.prog 44 #[.pointer (some ⟨g, 0, none⟩), .int .i64 (e : Int)] w (FailPost w g B e) := by
  obtain ⟨a, b, h1, h2⟩ := h.blk
  exact fail_ok w g B e a b h1 h2
set_option maxRecDepth 100000 in
theorem range_nil (w : World) (lo hi : Int) : Calls Tryz.prog 41 #[.pointer none, .int .i64 lo, .int .i64 hi] w fun en w' => en = .returned (.tuple #[.int .i64 0, .int .i64 1]) ∧ w = w' := by
  go_enter Tryz.func41, Tryz.ntmps41
  go_wp2_with fail
  refine (rnum_nil w).mono ?_
  rintro en w1 ⟨rfl, rfl⟩
  go_wp2_with fail
  go_ret2
  exact ⟨rfl, rfl⟩
set_option maxRecDepth 100000 in
theorem range_ok (w : World) (g B e : Nat) (l : List UInt8) (lo hi : Int) (h : Rdr w g B l e) : Calls Tryz.prog 41 #[.pointer (some ⟨g, 0, none⟩), .int .i64 lo, .int .i64 hi] w (RPost w g B (rg lo hi l e)) := by
  obtain ⟨v, e1, r, hrn⟩ : ∃ v e1 r, rn l e = (v, e1, r) := ⟨_, _, _, rfl⟩
  have hc := rnum_ok w g B e l h
  have hr : rg lo hi l e = if e1 ≠ 0 then (0, e1, r) else if v < lo ∨ hi < v then (0, 3, []) else (v, e1, r) := by unfold rg; rw [hrn]
  rw [hrn] at hc
  replace hc := Lib.hid hc
  replace hr := Lib.hid hr
  replace hrn := Lib.hid hrn
  go_enter Tryz.func41, Tryz.ntmps41
  go_wp2_with fail
  refine hc.out.mono ?_
  rintro en w1 ⟨rfl, hR, hm⟩
  dsimp only at hR ⊢
  replace hR := Lib.hid hR
  replace hm := Lib.hid hm
  by_cases he : e1 = 0
  · subst he
    by_cases c1 : v < lo
    · have c2 : decide (v < lo) = true := by simpa using c1
      go_wp2_with fail
      refine (fail_r _ g B 3 _ _ hR.out).mono ?_
      rintro en w2 ⟨rfl, hR2, hm2⟩
      replace hR2 := Lib.hid hR2
      replace hm2 := Lib.hid hm2
      go_wp2_with fail
      go_ret2
      rw [hr.out, if_neg (by omega), if_pos (.inl c1)]
      exact ⟨rfl, hR2.out, hm.out.trans hm2.out⟩
    · have c1' : decide (v < lo) = false := by simpa using c1
      by_cases c2 : hi < v
      · go_wp2_with fail
        refine (fail_r _ g B 3 _ _ hR.out).mono ?_
        rintro en w2 ⟨rfl, hR2, hm2⟩
        replace hR2 := Lib.hid hR2
        replace hm2 := Lib.hid hm2
        go_wp2_with fail
        go_ret2
        rw [hr.out, if_neg (by omega), if_pos (.inr c2)]
        exact ⟨rfl, hR2.out, hm.out.trans hm2.out⟩
      · go_wp2_with fail
        go_ret2
        rw [hr.out, if_neg (by omega), if_neg (by omega)]
        exact ⟨rfl, hR.out, hm.out⟩
  · have he1 : ((e1 : Int) != 0) = true := by simp; omega
    go_wp2_with fail
    go_ret2
    rw [hr.out, if_pos he]
    exact ⟨rfl, hR.out, hm.out⟩
/-- What Text tells. -/
def rt (most : Int) (l : List UInt8) (e : Nat) : List UInt8 × Nat × List UInt8 :=
  if (rg 0 most l e).2.1 ≠ 0 then ([], (rg 0 most l e).2) else if ((rg 0 most l e).2.2.length : Int) < (rg 0 most l e).1 then ([], 4, []) else
    ((rg 0 most l e).2.2.take (rg 0 most l e).1.toNat, 0, (rg 0 most l e).2.2.drop (rg 0 most l e).1.toNat)
def TPost (w : World) (g B : Nat) (r : List UInt8 × Nat × List UInt8) (en : Ending) (w' : World) : Prop :=
  en = .returned (.tuple #[.string (txt r.1), .int .i64 (r.2.1 : Int)]) ∧ Rdr w' g B r.2.2 r.2.1 ∧ Mod (only g) w w'
set_option maxRecDepth 100000 in
theorem rtext_nil (w : World) (most : Int) : Calls Tryz.prog 42 #[.pointer none, .int .i64 most] w fun en w' => en = .returned (.tuple #[.string (txt []), .int .i64 1]) ∧ w = w' := by
  go_enter Tryz.func42, Tryz.ntmps42
  go_wp2_with fail
  refine (range_nil w _ _).mono ?_
  rintro en w1 ⟨rfl, rfl⟩
  go_wp2_with fail
  go_ret2
  exact ⟨rfl, rfl⟩
theorem rg_bound {lo hi : Int} {l : List UInt8} {e : Nat} {v : Int} {r : List UInt8} (h : rg lo hi l e = (v, 0, r)) : lo ≤ v ∧ v ≤ hi := by
  unfold rg at h
  by_cases h1 : (rn l e).2.1 ≠ 0
  · rw [if_pos h1] at h
    have := congrArg (·.2.1) h
    simp only at this
    omega
  · rw [if_neg h1] at h
    by_cases h2 : (rn l e).1 < lo ∨ hi < (rn l e).1
    · rw [if_pos h2] at h; simp at h
    · rw [if_neg h2] at h
      rw [h] at h2
      simp only at h2
      omega
theorem rest_gen {w : World} {g B : Nat} {A : Option Addr} {n c : Nat} {l : List UInt8} {k q d : Nat} (hb : Blk w g 90 #[.slice A n c, .int .i64 ((0 : Nat) : Int)]) (hr : RdB w A l.length l)
    (hA : ∀ j, fp A j → j = B) (hB : g ≠ B) (hl : l.length = k + q) (hqd : q ≤ d) (hc : k + d ≤ 9223372036854775807) (A' : Option Addr) (m c' : Nat) (h1 : A' = A ∧ d = 0 ∨ A' = A.map (fun x => x.add k)) (h2 : m = q) (h3 : c' = d) :
    Rdr (w.setCell ⟨g, 0, none⟩ (.slice A' m c')) g B (l.drop k) 0 := by
  subst h2 h3
  have hlt : ∀ j, fp A' j → j = B := by
    rintro j ⟨a, ha, rfl⟩
    rcases h1 with ⟨h, _⟩ | h
    · rw [h] at ha; exact hA _ ⟨a, ha, rfl⟩
    · rw [h] at ha
      cases A with
      | none => cases ha
      | some x => cases ha; rw [block_of_add]; exact hA _ ⟨x, rfl, rfl⟩
  have h4 : RdB w A' m (l.drop k) := by
    rcases h1 with ⟨rfl, h0⟩ | rfl
    · have : m = 0 := by omega
      subst this
      rw [List.drop_eq_nil_of_le (by omega)]
      exact ⟨by simp [bvs], fun h => by omega⟩
    · have := rdb_drop hr (k := k) (c := l.length + k + 1) (by omega) (by omega)
      rw [if_neg (by omega), show l.length - k = m by omega] at this
      exact this
  refine ⟨A', m, c', hb.set_ 0 _, Rd.mod h4 ((Mod.refl (only g) w).set_only 0 _) ?_, hqd, by omega, hlt, hB⟩
  intro j hj hg
  exact hB (hg ▸ hlt j hj)
set_option maxRecDepth 100000 in
theorem rtext_ok (w : World) (g B e : Nat) (l : List UInt8) (most : Int) (h : Rdr w g B l e) (hmost : most ≤ 9223372036854775807) : Calls Tryz.prog 42 #[.pointer (some ⟨g, 0, none⟩), .int .i64 most] w (TPost w g B (rt most l e)) := by
  obtain ⟨v, e1, r, hrn⟩ : ∃ v e1 r, rg 0 most l e = (v, e1, r) := ⟨_, _, _, rfl⟩
  have hc := range_ok w g B e l 0 most h
  have hr : rt most l e = if e1 ≠ 0 then ([], e1, r) else if (r.length : Int) < v then ([], 4, []) else (r.take v.toNat, 0, r.drop v.toNat) := by unfold rt; rw [hrn]
  rw [hrn] at hc
  by_cases he : e1 = 0
  · subst he
    have hv := rg_bound hrn
    obtain ⟨k, rfl⟩ : ∃ k : Nat, v = (k : Int) := ⟨v.toNat, by omega⟩
    have hk : k ≤ 9223372036854775807 := by omega
    clear hv
    replace hc := Lib.hid hc
    replace hr := Lib.hid hr
    replace hrn := Lib.hid hrn
    go_enter Tryz.func42, Tryz.ntmps42
    go_wp2_with fail
    refine hc.out.mono ?_
    rintro en w1 ⟨rfl, hR, hm⟩
    dsimp only at hR ⊢
    have hall := Lib.hid hR
    obtain ⟨A, n, c, hb, hrd, hnc, hcm, hA, hB⟩ := hR
    obtain ⟨h1, h2, h3, h4⟩ := hb.two
    have hl := hrd.len
    subst hl
    replace hb := Lib.hid hb
    replace hrd := Lib.hid hrd
    replace hA := Lib.hid hA
    replace hm := Lib.hid hm
    by_cases c1 : r.length < k
    · go_wp2_with fail
      refine (fail_r _ g B 4 _ _ hall.out).mono ?_
      rintro en w2 ⟨rfl, hR2, hm2⟩
      replace hR2 := Lib.hid hR2
      replace hm2 := Lib.hid hm2
      go_wp2_with fail
      go_ret2
      rw [hr.out, if_neg (by omega), if_pos (by omega)]
      exact ⟨rfl, hR2.out, hm.out.trans hm2.out⟩
    · obtain ⟨q, hq⟩ : ∃ q, r.length = k + q := ⟨r.length - k, by omega⟩
      obtain ⟨d, rfl⟩ : ∃ d, c = k + d := ⟨c - k, by omega⟩
      have hfin := Lib.hid (@rest_gen w1 g B A _ _ r k q d hb.out hrd.out hA.out hB hq (by omega) (by omega))
      have hlt0 : decide (((k : Nat) : Int) + ((q : Nat) : Int) < ((k : Nat) : Int)) = false := by simp; omega
      by_cases d0 : d = 0
      · subst d0
        have hcv := run_string_of_bytes (P := Tryz.prog) w1 22 9 5 Tryz.underlying22 Tryz.underlying5 Tryz.underlying9 A k k (r.take k) (rdb_take hrd.out (by omega))
        go_wp2_with fail
        go_ret2
        rw [hr.out, if_neg (by omega), if_neg (by omega)]
        exact ⟨rfl, hfin.out _ _ _ (.inl ⟨rfl, by simp⟩) (by omega) (by omega), hm.out.set_only 0 _⟩
      · have hcv := run_string_of_bytes (P := Tryz.prog) w1 22 9 5 Tryz.underlying22 Tryz.underlying5 Tryz.underlying9 A k (k + d) (r.take k) (rdb_take hrd.out (by omega))
        go_wp2_with fail
        go_ret2
        rw [hr.out, if_neg (by omega), if_neg (by omega)]
        exact ⟨rfl, hfin.out _ _ _ (.inr rfl) (by omega) (by omega), hm.out.set_only 0 _⟩
  · have he1 : ((e1 : Int) != 0) = true := by simp; omega
    replace hc := Lib.hid hc
    replace hr := Lib.hid hr
    replace hrn := Lib.hid hrn
    go_enter Tryz.func42, Tryz.ntmps42
    go_wp2_with fail
    refine hc.out.mono ?_
    rintro en w1 ⟨rfl, hR, hm⟩
    dsimp only at hR ⊢
    replace hR := Lib.hid hR
    replace hm := Lib.hid hm
    go_wp2_with fail
    go_ret2
    rw [hr.out, if_pos he]
    exact ⟨rfl, hR.out, hm.out⟩
end Go.Proofs.YtimlfdihodoolaaGreat
/-
  The contract of pack.Reader.Nums. No condition.
-/
namespace Go.Proofs.YtimlfdihodoolaaGreat
set_option linter.unusedVariables false
set_option linter.unusedSimpArgs false
open Go.RowKit
/-- The next k numbers, behind some. -/
def rnl : Nat → List Int → List UInt8 → List Int × Nat × List UInt8
  | 0, pre, l => (pre, 0, l)
  | k + 1, pre, l => if (rn l 0).2.1 ≠ 0 then ([], (rn l 0).2) else rnl k (pre ++ [(rn l 0).1]) (rn l 0).2.2
/-- What Nums tells. -/
def rns (most : Int) (l : List UInt8) (e : Nat) : List Int × Nat × List UInt8 :=
  if (rg 0 most l e).2.1 ≠ 0 then ([], (rg 0 most l e).2) else rnl (rg 0 most l e).1.toNat [] (rg 0 most l e).2.2
def LPost (w : World) (g B : Nat) (r : List Int × Nat × List UInt8) (en : Ending) (w' : World) : Prop :=
  ∃ A n c, en = .returned (.tuple #[.slice A n c, .int .i64 (r.2.1 : Int)]) ∧ OwI w' A n c r.1 ∧ Fresh w A ∧ Rdr w' g B r.2.2 r.2.1 ∧ Mod (only g) w w'
theorem RPost.zero {w : World} {g B : Nat} {v : Int} {r : List UInt8} {en : Ending} {w' : World} (h : RPost w g B (v, 0, r) en w') : en = .returned (.tuple #[.int .i64 v, .int .i64 0]) ∧ Rdr w' g B r 0 ∧ Mod (only g) w w' := h
def NsRel (w : World) (g B k : Nat) (l0 : List UInt8) (i : Nat) (v : Value) (wr : World) : Prop :=
  ∃ A t c pre l, v = .slice A t c ∧ OwI wr A t c pre ∧ Fresh w A ∧ Mod (only g) w wr ∧ Rdr wr g B l 0 ∧ rnl (k - i) pre l = rnl k [] l0 ∧ t = i
theorem Fresh.not_only {w : World} {A : Option Addr} (h : Fresh w A) {g : Nat} (hg : g < w.heap.size) : ∀ k, fp A k → ¬ only g k := by
  rintro k ⟨a, ha, rfl⟩ hk
  have := h a ha
  unfold only at hk
  omega
theorem Fresh.not_fp {w : World} {A : Option Addr} (h : Fresh w A) {g : Nat} (hg : g < w.heap.size) : ¬ fp A g := by
  rintro ⟨a, ha, rfl⟩
  have := h a ha
  omega
end Go.Proofs.YtimlfdihodoolaaGreat
/-
  The plain laws of chapter 2: what is read is written so; cut it is torn; what is written is read. No condition.
-/
namespace Go.Proofs.YtimlfdihodoolaaGreat
set_option linter.unusedVariables false
set_option linter.unusedSimpArgs false
theorem rn_err {l : List UInt8} {v : Int} {e : Nat} {r : List UInt8} (h : rn l 0 = (v, e, r)) (he : e ≠ 0) : r = [] := by
  unfold rn at h
  rw [if_neg (by omega)] at h
  by_cases h1 : (rdNum l).1 = 0
  · rw [if_pos h1] at h; simp only [Prod.mk.injEq] at h; omega
  · rw [if_neg h1] at h; simp only [Prod.mk.injEq] at h; exact h.2.2.symm
theorem rn_yes {l : List UInt8} {v : Int} {r : List UInt8} (h : rn l 0 = (v, 0, r)) : ∃ k, 0 < k ∧ k ≤ l.length ∧ r = l.drop k ∧ l.take k = vb (zig v) ∧ -9223372036854775808 ≤ v ∧ v ≤ 9223372036854775807 ∧ rdNum l = (0, zig v, k) := by
  unfold rn at h
  rw [if_neg (by omega)] at h
  by_cases h1 : (rdNum l).1 = 0
  · rw [if_pos h1] at h
    obtain ⟨c, m, k, hr⟩ : ∃ c m k, rdNum l = (c, m, k) := ⟨_, _, _, rfl⟩
    rw [hr] at h h1
    simp only at h h1
    subst h1
    simp only [Prod.mk.injEq, true_and] at h
    obtain ⟨rfl, rfl⟩ := h
    obtain ⟨a1, a2, a3, a4⟩ := rdNum_once hr
    have hb := unzig_in a4
    exact ⟨k, a1, a2, rfl, by rw [zig_unzig]; exact a3, hb.1, hb.2, by rw [zig_unzig]; exact hr⟩
  · rw [if_neg h1] at h; simp only [Prod.mk.injEq] at h; omega
theorem rn_of {l : List UInt8} {v : Int} {t : List UInt8} (h1 : -9223372036854775808 ≤ v) (h2 : v ≤ 9223372036854775807) (hl : l = vb (zig v) ++ t) : rn l 0 = (v, 0, t) := by
  have h := rdNum_vb (zig v) t (by have := zig_lt h1 h2; simpa using this)
  rw [← hl] at h
  unfold rn
  rw [if_neg (by omega), h]
  simp only [if_true, unzig_zig]
  rw [hl, List.drop_left]
theorem rn_cut {l : List UInt8} {v : Int} {k j : Nat} (h : rdNum l = (0, zig v, k)) (hj : j < k) : rn (l.take j) 0 = (0, 4, []) := by
  unfold rn
  rw [if_neg (by omega), rdNum_cut h hj]
  simp
theorem rnl_err : ∀ (n : Nat) (pre xs : List Int) (l : List UInt8) (e : Nat) (r : List UInt8), rnl n pre l = (xs, e, r) → e ≠ 0 → xs = [] ∧ r = [] := by
  intro n
  induction n with
  | zero => intro pre xs l e r h he; simp only [rnl, Prod.mk.injEq] at h; omega
  | succ n ih =>
    intro pre xs l e r h he
    simp only [rnl] at h
    by_cases h1 : (rn l 0).2.1 ≠ 0
    · rw [if_pos h1] at h
      simp only [Prod.mk.injEq] at h
      obtain ⟨a, b, c, hr⟩ : ∃ a b c, rn l 0 = (a, b, c) := ⟨_, _, _, rfl⟩
      rw [hr] at h h1
      exact ⟨h.1.symm, by rw [← (by simpa using congrArg (·.2) h.2 : c = r)]; exact rn_err hr h1⟩
    · rw [if_neg h1] at h
      exact ih _ _ _ _ _ h he
theorem rns_err {most : Int} {l : List UInt8} {xs : List Int} {e : Nat} {r : List UInt8} (h : rns most l 0 = (xs, e, r)) (he : e ≠ 0) : xs = [] ∧ r = [] := by
  unfold rns at h
  by_cases h1 : (rg 0 most l 0).2.1 ≠ 0
  · rw [if_pos h1] at h
    simp only [Prod.mk.injEq] at h
    refine ⟨h.1.symm, ?_⟩
    have h2 := h.2
    unfold rg at h2 h1
    by_cases h3 : (rn l 0).2.1 ≠ 0
    · rw [if_pos h3] at h2
      obtain ⟨a, b, c, hr⟩ : ∃ a b c, rn l 0 = (a, b, c) := ⟨_, _, _, rfl⟩
      rw [hr] at h2 h3
      have := rn_err hr h3
      rw [this] at h2
      exact (by simpa using congrArg (·.2) h2 : [] = r).symm
    · rw [if_neg h3] at h2 h1
      by_cases h4 : (rn l 0).1 < 0 ∨ most < (rn l 0).1
      · rw [if_pos h4] at h2
        exact (by simpa using congrArg (·.2) h2 : [] = r).symm
      · rw [if_neg h4] at h1
        exact absurd h1 h3
  · rw [if_neg h1] at h
    exact rnl_err _ _ _ _ _ _ h he
theorem rnl_yes : ∀ (n : Nat) (pre xs : List Int) (l : List UInt8) (r : List UInt8), rnl n pre l = (xs, 0, r) → ∃ ys k, xs = pre ++ ys ∧ ys.length = n ∧ k ≤ l.length ∧ r = l.drop k ∧ l.take k = ys.flatMap (fun x => vb (zig x)) ∧ i64In ys ∧
    (∀ j, j < k → ∀ q, (rnl n q (l.take j)).2.1 = 4) := by
  intro n
  induction n with
  | zero =>
    intro pre xs l r h
    simp only [rnl, Prod.mk.injEq] at h
    obtain ⟨rfl, _, rfl⟩ := h
    exact ⟨[], 0, by simp, rfl, by omega, by simp, by simp, by simp [i64In], fun j hj => by omega⟩
  | succ n ih =>
    intro pre xs l r h
    obtain ⟨v, e, l1, hr⟩ : ∃ v e l1, rn l 0 = (v, e, l1) := ⟨_, _, _, rfl⟩
    simp only [rnl, hr] at h
    by_cases h1 : e ≠ 0
    · rw [if_pos h1] at h; simp only [Prod.mk.injEq] at h; omega
    · rw [if_neg h1] at h
      have : e = 0 := by omega
      subst this
      obtain ⟨k1, a1, a2, rfl, a4, a5, a6, a7⟩ := rn_yes hr
      obtain ⟨ys, k2, b1, b2, b3, b4, b5, b6, b7⟩ := ih _ _ _ _ h
      rw [List.length_drop] at b3
      refine ⟨v :: ys, k1 + k2, by rw [b1]; simp, by simp [b2], by omega, by rw [b4, List.drop_drop], ?_, ?_, ?_⟩
      · rw [List.take_add, b5, a4]; simp
      · intro x hx
        rcases List.mem_cons.1 hx with rfl | hx
        · exact ⟨a5, a6⟩
        · exact b6 x hx
      · intro j hj q
        by_cases hjk : j < k1
        · simp only [rnl, rn_cut a7 hjk]; simp
        · have e1 : l.take j = vb (zig v) ++ (l.drop k1).take (j - k1) := by
            rw [← a4, ← List.take_add, show k1 + (j - k1) = j by omega]
          simp only [rnl, rn_of a5 a6 e1]
          rw [if_neg (by omega)]
          exact b7 _ (by omega) _
/-- PackOnce's heart. -/
theorem rns_yes {most : Int} {l : List UInt8} {xs : List Int} {r : List UInt8} (h : rns most l 0 = (xs, 0, r)) :
    ∃ k, 0 < k ∧ k ≤ l.length ∧ r = l.drop k ∧ l.take k = numsB xs ∧ i64In xs ∧ (xs.length : Int) ≤ most ∧ ∀ j, j < k → (rns most (l.take j) 0).2.1 = 4 := by
  obtain ⟨v, e, l1, hr⟩ : ∃ v e l1, rg 0 most l 0 = (v, e, l1) := ⟨_, _, _, rfl⟩
  unfold rns at h
  rw [hr] at h
  by_cases h1 : e ≠ 0
  · rw [if_pos h1] at h; simp only [Prod.mk.injEq] at h; omega
  · rw [if_neg h1] at h
    have : e = 0 := by omega
    subst this
    have hb := rg_bound hr
    have hrn : rn l 0 = (v, 0, l1) := by
      unfold rg at hr
      by_cases h3 : (rn l 0).2.1 ≠ 0
      · rw [if_pos h3] at hr
        exfalso
        exact h3 (congrArg (·.2.1) hr)
      · rw [if_neg h3] at hr
        by_cases h4 : (rn l 0).1 < 0 ∨ most < (rn l 0).1
        · rw [if_pos h4] at hr; simp at hr
        · rw [if_neg h4] at hr; exact hr
    obtain ⟨k1, a1, a2, rfl, a4, a5, a6, a7⟩ := rn_yes hrn
    obtain ⟨ys, k2, b1, b2, b3, b4, b5, b6, b7⟩ := rnl_yes _ _ _ _ _ h
    simp only [List.nil_append] at b1
    subst b1
    rw [List.length_drop] at b3
    have hlen : (xs.length : Int) = v := by rw [b2]; simp only; omega
    refine ⟨k1 + k2, by omega, by omega, by rw [b4, List.drop_drop], ?_, b6, by omega, ?_⟩
    · rw [List.take_add, b5, a4, numsB, hlen]
    · intro j hj
      unfold rns rg
      by_cases hjk : j < k1
      · rw [rn_cut a7 hjk]; simp
      · have e1 : l.take j = vb (zig v) ++ (l.drop k1).take (j - k1) := by
          rw [← a4, ← List.take_add, show k1 + (j - k1) = j by omega]
        rw [rn_of a5 a6 e1]
        simp only
        rw [if_neg (by omega : ¬ (v < 0 ∨ most < v))]
        simp only [ne_eq, not_true_eq_false, if_false]
        exact b7 _ (by omega) _
end Go.Proofs.YtimlfdihodoolaaGreat
/-
  slices.Equal of legs, of Insts.
-/
namespace Go.Proofs.YtimlfdihodoolaaGreat
set_option linter.unusedVariables false
set_option linter.unusedSimpArgs false
open Go.RowKit
set_option maxRecDepth 100000 in
set_option maxHeartbeats 4000000 in
theorem eqL_ok (w : World) (A B : Option Addr) (n m c d : Nat) (C D : List Lg) (hA : RdL w A n C) (hB : RdL w B m D) (hn : n ≤ 140737488355328) (hm : m ≤ 140737488355328) :
    Calls Tryz.prog 89 #[.slice A n c, .slice B m d] w fun e w' => e = .returned (.bool (decide (C = D))) ∧ ∃ k, w' = w.drewN k := by
  have la := hA.len
  have lb := hB.len
  by_cases hnm : n = m
  · subst hnm
    replace hA := Lib.hid hA
    replace hB := Lib.hid hB
    replace la := Lib.hid la
    replace lb := Lib.hid lb
    go_enter Tryz.func89, Tryz.ntmps89
    go_wp2_with fail
    go_loopg [13] n (fun k x wr => ∃ j : Nat, x = .int .i64 j ∧ j + k = n ∧ C.take j = D.take j ∧ ∃ q, wr = w.drewN q)
    case atStart => exact ⟨0, rfl, by omega, rfl, 0, rfl⟩
    case round =>
      obtain ⟨j, rfl, hj, htk, q, hq⟩ := hrel
      by_cases hlt : j < n
      · have hjC : j < C.length := by rw [la.out]; exact hlt
        have hjD : j < D.length := by rw [lb.out]; exact hlt
        obtain ⟨b, o, x0, rfl, -, hx0, a1, a2⟩ := rdl_get (w := w.drewN q) (Rd.drewN hA.out q) hlt
        rw [List.getElem?_eq_getElem hjC] at hx0
        injection hx0 with hx0
        subst hx0
        obtain ⟨b', o', y0, rfl, -, hy0, b1, b2⟩ := rdl_get (w := w.drewN q) (Rd.drewN hB.out q) hlt
        rw [List.getElem?_eq_getElem hjD] at hy0
        injection hy0 with hy0
        subst hy0
        rw [← hq] at a1 a2 b1 b2
        have t1 : C.take (j+1) = C.take j ++ [C[j]] := by rw [List.take_succ_eq_append_getElem hjC]
        have t2 : D.take (j+1) = D.take j ++ [D[j]] := by rw [List.take_succ_eq_append_getElem hjD]
        generalize C[j] = x at *
        generalize D[j] = y at *
        have hne := fun W => neq_lg W x y
        unfold lgV at hne
        have hdiff : C.take j = D.take j → ¬ x = y → ¬ C = D := by
          intro h1 h2 h3
          subst h3
          rw [t1] at t2
          have := List.append_cancel_left t2
          simp at this
          exact h2 this
        by_cases hxy : x = y
        · rw [decide_eq_true hxy] at hne
          replace hq := Lib.hid hq
          replace t1 := Lib.hid t1
          replace t2 := Lib.hid t2
          replace htk := Lib.hid htk
          replace hjC := Lib.hid hjC
          replace hjD := Lib.hid hjD
          replace hxy := Lib.hid hxy
          replace hdiff := Lib.hid hdiff
          go_wp2_with (go_quiet (fail))
          go_roundg (gk - 1)
          case measure => omega
          case rel => exact ⟨j + 1, by go_num, by omega, by rw [t1.out, t2.out, htk.out, hxy.out], _, by rw [hq.out, World.drewN_drewN]⟩
        · rw [decide_eq_false hxy] at hne
          have hno : decide (C = D) = false := decide_eq_false (hdiff htk hxy)
          replace hq := Lib.hid hq
          replace t1 := Lib.hid t1
          replace t2 := Lib.hid t2
          replace htk := Lib.hid htk
          replace hjC := Lib.hid hjC
          replace hjD := Lib.hid hjD
          replace hxy := Lib.hid hxy
          replace hdiff := Lib.hid hdiff
          replace hno := Lib.hid hno
          go_wp2_with (go_quiet (fail))
          go_ret
          exact ⟨by rw [hno.out] <;> rfl, _, by rw [hq.out, World.drewN_drewN]⟩
      · have hjn : j = n := by omega
        subst hjn
        have heq : decide (C = D) = true := by
          refine decide_eq_true ?_
          rw [List.take_of_length_le (by have := la.out; omega), List.take_of_length_le (by have := lb.out; omega)] at htk
          exact htk
        replace htk := Lib.hid htk
        replace hq := Lib.hid hq
        replace heq := Lib.hid heq
        go_wp2_with fail
        go_ret
        exact ⟨by rw [heq.out] <;> rfl, q, hq.out⟩
  · have hno : decide (C = D) = false := decide_eq_false (fun h => hnm (by rw [← la, ← lb, h]))
    have hnm2 : ((n : Int) == (m : Int)) = false := by simp; omega
    replace hA := Lib.hid hA
    replace hB := Lib.hid hB
    replace la := Lib.hid la
    replace lb := Lib.hid lb
    replace hnm := Lib.hid hnm
    replace hno := Lib.hid hno
    go_enter Tryz.func89, Tryz.ntmps89
    go_wp2_with fail
    go_ret
    exact ⟨by rw [hno.out] <;> rfl, 0, rfl⟩
set_option maxRecDepth 100000 in
set_option maxHeartbeats 4000000 in
theorem eqP_ok (w : World) (A B : Option Addr) (n m c d : Nat) (C D : List Is) (hA : RdP w A n C) (hB : RdP w B m D) (hn : n ≤ 140737488355328) (hm : m ≤ 140737488355328) :
    Calls Tryz.prog 70 #[.slice A n c, .slice B m d] w fun e w' => e = .returned (.bool (decide (C = D))) ∧ ∃ k, w' = w.drewN k := by
  have la := hA.len
  have lb := hB.len
  by_cases hnm : n = m
  · subst hnm
    replace hA := Lib.hid hA
    replace hB := Lib.hid hB
    replace la := Lib.hid la
    replace lb := Lib.hid lb
    go_enter Tryz.func70, Tryz.ntmps70
    go_wp2_with fail
    go_loopg [13] n (fun k x wr => ∃ j : Nat, x = .int .i64 j ∧ j + k = n ∧ C.take j = D.take j ∧ ∃ q, wr = w.drewN q)
    case atStart => exact ⟨0, rfl, by omega, rfl, 0, rfl⟩
    case round =>
      obtain ⟨j, rfl, hj, htk, q, hq⟩ := hrel
      by_cases hlt : j < n
      · have hjC : j < C.length := by rw [la.out]; exact hlt
        have hjD : j < D.length := by rw [lb.out]; exact hlt
        obtain ⟨b, o, x0, rfl, -, hx0, a1, a2⟩ := rdp_get (w := w.drewN q) (Rd.drewN hA.out q) hlt
        rw [List.getElem?_eq_getElem hjC] at hx0
        injection hx0 with hx0
        subst hx0
        obtain ⟨b', o', y0, rfl, -, hy0, b1, b2⟩ := rdp_get (w := w.drewN q) (Rd.drewN hB.out q) hlt
        rw [List.getElem?_eq_getElem hjD] at hy0
        injection hy0 with hy0
        subst hy0
        rw [← hq] at a1 a2 b1 b2
        have t1 : C.take (j+1) = C.take j ++ [C[j]] := by rw [List.take_succ_eq_append_getElem hjC]
        have t2 : D.take (j+1) = D.take j ++ [D[j]] := by rw [List.take_succ_eq_append_getElem hjD]
        generalize C[j] = x at *
        generalize D[j] = y at *
        have hne := fun W => neq_is W x y
        unfold isV at hne
        have hdiff : C.take j = D.take j → ¬ x = y → ¬ C = D := by
          intro h1 h2 h3
          subst h3
          rw [t1] at t2
          have := List.append_cancel_left t2
          simp at this
          exact h2 this
        by_cases hxy : x = y
        · rw [decide_eq_true hxy] at hne
          replace hq := Lib.hid hq
          replace t1 := Lib.hid t1
          replace t2 := Lib.hid t2
          replace htk := Lib.hid htk
          replace hjC := Lib.hid hjC
          replace hjD := Lib.hid hjD
          replace hxy := Lib.hid hxy
          replace hdiff := Lib.hid hdiff
          go_wp2_with (go_quiet (fail))
          go_roundg (gk - 1)
          case measure => omega
          case rel => exact ⟨j + 1, by go_num, by omega, by rw [t1.out, t2.out, htk.out, hxy.out], _, by rw [hq.out, World.drewN_drewN]⟩
        · rw [decide_eq_false hxy] at hne
          have hno : decide (C = D) = false := decide_eq_false (hdiff htk hxy)
          replace hq := Lib.hid hq
          replace t1 := Lib.hid t1
          replace t2 := Lib.hid t2
          replace htk := Lib.hid htk
          replace hjC := Lib.hid hjC
          replace hjD := Lib.hid hjD
          replace hxy := Lib.hid hxy
          replace hdiff := Lib.hid hdiff
          replace hno := Lib.hid hno
          go_wp2_with (go_quiet (fail))
          go_ret
          exact ⟨by rw [hno.out] <;> rfl, _, by rw [hq.out, World.drewN_drewN]⟩
      · have hjn : j = n := by omega
        subst hjn
        have heq : decide (C = D) = true := by
          refine decide_eq_true ?_
          rw [List.take_of_length_le (by have := la.out; omega), List.take_of_length_le (by have := lb.out; omega)] at htk
          exact htk
        replace htk := Lib.hid htk
        replace hq := Lib.hid hq
        replace heq := Lib.hid heq
        go_wp2_with fail
        go_ret
        exact ⟨by rw [heq.out] <;> rfl, q, hq.out⟩
  · have hno : decide (C = D) = false := decide_eq_false (fun h => hnm (by rw [← la, ← lb, h]))
    have hnm2 : ((n : Int) == (m : Int)) = false := by simp; omega
    replace hA := Lib.hid hA
    replace hB := Lib.hid hB
    replace la := Lib.hid la
    replace lb := Lib.hid lb
    replace hnm := Lib.hid hnm
    replace hno := Lib.hid hno
    go_enter Tryz.func70, Tryz.ntmps70
    go_wp2_with fail
    go_ret
    exact ⟨by rw [hno.out] <;> rfl, 0, rfl⟩
end Go.Proofs.YtimlfdihodoolaaGreat
