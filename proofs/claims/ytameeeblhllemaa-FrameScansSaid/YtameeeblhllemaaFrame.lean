/-
  Contracts of frame.fits, frame.table, frame.Sum. No condition.
-/
import Derived.Test.YtameeeblhllemaaCrc
import Derived.Test.YtameeeblhllemaaMem
import Derived.Test.YtameeeblhllemaaRows
import Derived.Handy
namespace Go.Proofs.Ytameeeblhllemaa
open Go.RowKit

theorem u8info : (Try.prog.info? 5).map (fun i => (i.zero, i.size, i.bytes)) = some (some (.int .u8 0), 1, 1) := by kernel_rfl

theorem ret_b {a b : Bool} (h : a = b) : Ending.returned (.bool a) = .returned (.bool b) := by rw [h]
theorem ret_i {k : IntKind} {a b : Int} (h : a = b) : Ending.returned (.int k a) = .returned (.int k b) := by rw [h]

theorem fits_yes (n : Int) (w : World) (h1 : 1 ≤ n) (h2 : n ≤ 4096) : Calls Try.prog 22 #[.int .i64 n] w fun e w' => e = .returned (.bool true) ∧ w = w' := by
  go_enter Try.func22, Try.ntmps22
  go_wp2
  go_ret
  exact ⟨rfl, rfl⟩
theorem fits_no (n : Int) (w : World) (h : n < 1 ∨ 4096 < n) : Calls Try.prog 22 #[.int .i64 n] w fun e w' => e = .returned (.bool false) ∧ w = w' := by
  rcases h with h | h
  · go_enter Try.func22, Try.ntmps22
    go_wp2
    go_ret
    exact ⟨rfl, rfl⟩
  · have h1 : 1 ≤ n := by omega
    go_enter Try.func22, Try.ntmps22
    go_wp2
    go_ret
    exact ⟨ret_b (by simp; omega), rfl⟩

/-- The table with its first j places filled. -/
def tabCells (j : Nat) : Array Value := ((List.range 256).map fun i => Value.int .u32 (if i < j then (tabN i : Int) else 0)).toArray
theorem tabCells_size (j : Nat) : (tabCells j).size = 256 := by simp [tabCells]
theorem tabCells_get (j i : Nat) (hi : i < 256) : (tabCells j)[i]? = some (.int .u32 (if i < j then (tabN i : Int) else 0)) := by
  simp [tabCells, hi]
theorem tabCells_set (j : Nat) (hj : j < 256) : (tabCells j).setIfInBounds j (.int .u32 (tabN j : Int)) = tabCells (j + 1) := by
  apply Array.ext_getElem?
  intro i
  rw [Array.getElem?_setIfInBounds]
  by_cases h : j = i
  · subst h
    rw [if_pos rfl, if_pos (by rw [tabCells_size]; exact hj), tabCells_get _ _ hj, if_pos (by omega)]
  · rw [if_neg h]
    rcases Nat.lt_or_ge i 256 with hi | hi
    · rw [tabCells_get _ _ hi, tabCells_get _ _ hi]
      by_cases h2 : i < j
      · rw [if_pos h2, if_pos (by omega)]
      · rw [if_neg h2, if_neg (by omega)]
    · rw [Array.getElem?_eq_none (by rw [tabCells_size]; exact hi), Array.getElem?_eq_none (by rw [tabCells_size]; exact hi)]

/-- A new variable, whatever its size. -/
theorem wpList_alloc_zero {P : Program} {w : World} {ops : Array Oper} {rest : List Oper} {o : Oper} {a : Act} {Q : Exit → Act → World → Prop} (hgd : o.guard = none) (t : TypeId) (ho : o.op = .alloc t)
    (i : TypeInfo) (z : Value) (hi : P.info? t = some i) (hz : i.zero = some z)
    (h : wpList P ops Q rest (a.put o.dst (.pointer (some ⟨w.heap.size, 0, none⟩))) (w.alloc (.cells z.cells t))) : wpList P ops Q (o :: rest) a w :=
  wpList_plain hgd fun K hK => by
    unfold Oper.wp execOp
    simp only [ho]
    simp [Instr.alloc, zeroValue, typeInfo, hi, hz, newVar, newRow, newObj]
    exact hK _ _ h

theorem tabinfo : (Try.prog.info? 49).map (fun i => (i.zero, i.size, i.bytes)) = some (some (.agg (tabCells 0)), 256, 1024) := by kernel_rfl

theorem step_bits (h : Nat) (hh : h < 4294967296) : bits .xor .u32 ((h : Int) / 2) (bits .and .u32 3988292384 (-bits .and .u32 (h : Int) 1 % 4294967296)) = ((step1 h : Nat) : Int) := by
  have e1 : bits .and .u32 (h : Int) 1 = ((h % 2 : Nat) : Int) := by
    have := ba32 h 1 hh (by omega)
    rw [Nat.and_one_is_mod] at this
    exact this
  have e2 : ((h : Int) / 2) = ((h / 2 : Nat) : Int) := by omega
  rw [e1, e2]
  unfold step1
  rcases Nat.mod_two_eq_zero_or_one h with h0 | h0
  · rw [h0, if_neg (by omega)]
    have e3 : bits .and .u32 3988292384 (-((0 : Nat) : Int) % 4294967296) = ((0 : Nat) : Int) := by
      have := ba32 3988292384 0 (by omega) (by omega)
      simpa using this
    rw [e3]
    exact bx32 _ _ (by omega) (by omega)
  · rw [h0, if_pos rfl]
    have e3 : bits .and .u32 3988292384 (-((1 : Nat) : Int) % 4294967296) = ((3988292384 : Nat) : Int) := by
      have := ba32 3988292384 4294967295 (by omega) (by omega)
      have e4 : -((1 : Nat) : Int) % 4294967296 = ((4294967295 : Nat) : Int) := by omega
      rw [e4]
      have e5 : (3988292384 &&& 4294967295 : Nat) = 3988292384 := by decide
      rw [e5] at this
      exact this
    rw [e3]
    exact bx32 _ _ (by omega) (by omega)

theorem u32_eq {a b : Int} (h : a = b) : Value.int .u32 a = Value.int .u32 b := by rw [h]

set_option maxRecDepth 100000 in
theorem table_ok (w : World) : Calls Try.prog 24 #[] w fun e w' => e = .returned (.pointer (some ⟨w.heap.size, 0, none⟩)) ∧ w' = w.alloc (.cells (tabCells 256) 49) := by
  obtain ⟨i0, hi, hz0, hz1, hz2⟩ := info_parts tabinfo
  go_enter Try.func24, Try.ntmps24
  go_wp2_with (refine wpList_alloc_zero rfl 49 rfl i0 _ hi hz0 ?_)
  go_loopw [4] (fun i wr => ∃ (j : Nat), i = .int .i64 j ∧ j ≤ 256 ∧ wr = w.alloc (.cells (tabCells j) 49)) (fun i _ => 256 - (intOf i).toNat)
  case atStart => exact ⟨0, rfl, by omega, rfl⟩
  case round =>
    obtain ⟨j, rfl, hj, rfl⟩ := hrel
    by_cases hj2 : j < 256
    · go_wp2_with fail
      go_loop [3, 9] (fun h4 i => ∃ (k : Nat), h4 = .int .u32 (stepN k j : Nat) ∧ i = .int .i64 k ∧ k ≤ 8) (fun _ i => 8 - (intOf i).toNat)
      case atStart => exact ⟨0, rfl, rfl, by omega⟩
      case round =>
        obtain ⟨k, rfl, rfl, hk⟩ := hrel
        by_cases hk2 : k < 8
        · have hlt := stepN_lt k j (by omega)
          have hs : stepN (k + 1) j = step1 (stepN k j) := rfl
          have hb := step_bits (stepN k j) hlt
          rw [← hs] at hb
          replace hb := Lib.hid hb
          clear hs
          go_wp2
          go_round
          case rel => exact ⟨k + 1, u32_eq hb.out, by go_num, by omega⟩
          case measure => simp [intOf]; omega
        · have hk3 : k = 8 := by omega
          subst hk3
          have hg := tabCells_get j j hj2
          rw [if_neg (by omega)] at hg
          have hlt := stepN_lt 8 j (by omega)
          have hset := Lib.hid (tabCells_set j hj2)
          go_wp2
          go_roundw
          case rel => exact ⟨j + 1, by go_num, by omega, by rw [← hset.out]; rfl⟩
          case measure => simp [intOf]; omega
    · have hj3 : j = 256 := by omega
      subst hj3
      go_wp2
      go_ret
      exact ⟨rfl, rfl⟩

theorem not_nat (q : Nat) (hq : q < 4294967296) : 4294967295 ^^^ q = 4294967295 - q := by
  have h := BitVec.toNat_not (x := BitVec.ofNat 32 q)
  rw [BitVec.not_def, BitVec.toNat_xor, BitVec.toNat_ofNat, Nat.mod_eq_of_lt (by omega : q < 2 ^ 32)] at h
  have e : (BitVec.allOnes 32).toNat = 4294967295 := by decide
  rw [e] at h
  exact h
theorem not32 (q : Nat) (hq : q < 4294967296) : bits .xor .u32 IntKind.u32.max (q : Int) = ((4294967295 - q : Nat) : Int) := by
  have e : IntKind.u32.max = ((4294967295 : Nat) : Int) := by decide
  rw [e, bx32 4294967295 q (by omega) hq, not_nat q hq]

set_option maxRecDepth 100000 in
theorem sum_ok (w : World) (A : Option Addr) (n c : Nat) (l : List UInt8) (h : RdB w A n l) (hn : n ≤ 140737488351232) : Calls Try.prog 16 #[.slice A n c] w fun e w' => e = .returned (.int .u32 (crc l : Nat)) ∧ Mod none_ w w' := by
  have hl := Lib.hid h.len
  have H := Lib.hid h
  clear h
  go_enter Try.func16, Try.ntmps16
  go_wp2_with fail
  refine (table_ok w).mono ?_
  rintro e w1 ⟨rfl, hw1⟩
  have hb : Blk w1 w.heap.size 49 (tabCells 256) := by rw [hw1]; exact Blk.new w _ _
  have hm : Mod none_ w w1 := by rw [hw1]; exact (Mod.refl _ w).alloc _
  have hr := Lib.hid (H.out.mod0 hm)
  have hbt : ∀ i, i < 256 → w1.cell? ⟨w.heap.size, i, none⟩ = some (.int .u32 (tabN i : Nat)) := fun i hi => by
    rw [hb.cell, tabCells_get 256 i hi, if_pos hi]
  replace hb := Lib.hid hb
  replace hbt := Lib.hid hbt
  replace hm := Lib.hid hm
  clear hw1
  go_wp2_with fail
  go_loop [4, 10] (fun h4 i => ∃ (j : Nat), h4 = .int .u32 (crcFold (l.take j) : Nat) ∧ i = .int .i64 j ∧ j ≤ n) (fun _ i => n - (intOf i).toNat)
  case atStart => exact ⟨0, rfl, rfl, by omega⟩
  case round =>
    obtain ⟨j, rfl, rfl, hj⟩ := hrel
    by_cases hlt : j < n
    · obtain ⟨g, o, rfl, hc⟩ := hr.out.form (by omega) (by omega)
      have hjl : j < l.length := by have := hl.out; omega
      have hcj := hc j _ (bvs_get hjl)
      have hsn : crcFold (l.take (j + 1)) = crcStep (crcFold (l.take j)) l[j] := by
        rw [← crcFold_snoc, List.take_add_one, List.getElem?_eq_getElem hjl]; rfl
      have hft := crcFold_lt (l.take j)
      clear hc
      generalize l[j] = b at *
      replace hsn := Lib.hid hsn
      generalize crcFold (l.take j) = q at *
      have hbl := b.toNat_lt
      have hx : bits .xor .u8 ((q : Int) % 256) (b.toNat : Int) = (((q % 256) ^^^ b.toNat : Nat) : Int) := bx8 (q % 256) b.toNat (by omega) (by omega)
      have hxl := xor_lt8 (q % 256) b.toNat (by omega) (by omega)
      obtain ⟨x, hxx⟩ : ∃ x, x = (q % 256) ^^^ b.toNat := ⟨_, rfl⟩
      rw [← hxx] at hx hxl
      have hct := hbt.out x hxl
      have hx2 : bits .xor .u32 ((q : Int) / 256) (tabN x : Nat) = ((crcStep q b : Nat) : Int) := by
        have := bx32 (q / 256) (tabN x) (by omega) (tabN_lt x hxl)
        rw [hxx] at this ⊢
        exact this
      replace hxx := Lib.hid hxx
      go_wp2
      go_round
      case rel => exact ⟨j + 1, by rw [hsn.out], by go_num, by omega⟩
      case measure => simp [intOf]; omega
    · have hjn : j = n := by omega
      have e : l.take j = l := List.take_of_length_le (by have := hl.out; omega)
      have hft := crcFold_lt (l.take j)
      rw [e] at hft ⊢
      clear e
      have hnot := Lib.hid (not32 (crcFold l) hft)
      go_wp2
      go_ret
      exact ⟨ret_i hnot.out, hm.out⟩
end Go.Proofs.Ytameeeblhllemaa
