/-
  The contract of strconv.FormatUint at base 10. The table of powers of ten reads as the program's text lays it (asked only of numbers of three digits or more).
-/
import Derived.Test.YtlikknamliamiaaDoorCoinTimes
import Derived.Shelf.Strconv.Itoa3
import Derived.Lib.AppendIntMem
namespace Go.Proofs.YtlikknamliamiaaDoor
set_option linter.unusedVariables false
open Go.RowKit Go.Sort
def Tab (w : World) : Prop := Lib.TabIs Tryd.prog w "internal/strconv.uint64pow10" .u64 Lib.pow10Tab
set_option maxRecDepth 100000 in
set_option maxHeartbeats 1000000 in
theorem ifmtu_ok (w : World) (u : Nat) (hu : u < 18446744073709551616) (ht : 100 ≤ u → Tab w) : Calls Tryd.prog 38 #[.int .u64 (u : Int), .int .i64 10] w fun e w' => e = .returned (.string (txt (Lib.decDigits u))) ∧ Mod none_ w w' := by
  by_cases hs : u < 100
  · clear ht
    replace hu := Lib.hid hu
    go_enter Tryd.func38, Tryd.ntmps38
    go_wp2_with fail
    refine (Tryd.internal_strconv_small u hs _).mono ?_
    rintro e w1 ⟨rfl, rfl⟩
    dsimp only
    go_wp2_with fail
    go_ret
    exact ⟨rfl, Mod.refl _ _⟩
  · have htab := ht (by omega)
    have hnd20 : Lib.nDigits u ≤ 20 := by have := Lib.numDigits_eq u (by omega) hu; split at this <;> omega
    clear ht
    replace hu := Lib.hid hu
    replace htab := Lib.hid htab
    have hu1 : 1 ≤ u := by omega
    have hal : Tryd.prog.arrayLen 76 = 24 := by kernel_rfl
    have hsl : ∀ W, (Instr.sliceAt 76 (.pointer (some ⟨w.heap.size, 0, none⟩)) none (some (.int .i64 (Lib.nDigits u : Int))) none).run Tryd.prog W = .ok (.slice (some ⟨w.heap.size, 0, none⟩) (Lib.nDigits u) 24) W := fun W => by
      rw [run_sliceAt_array_h W 76 ⟨w.heap.size, 0, none⟩ (by kernel_rfl) .i64 (Lib.nDigits u : Int) (by omega) (by rw [hal]; omega)]
      rw [hal]
      have hsz : (sizeOf (Tryd.prog.elem 76)).run Tryd.prog W = .ok 1 W := by kernel_rfl
      rw [hsz]
      simp [slicedAt, Addr.add]
    have hH0 := Lib.holds_zero0 w 76 (Lib.nDigits u) (by omega)
    have hfmt := Tryd.internal_strconv_formatBase10 w.heap.size 0 24 u (Array.replicate (Lib.nDigits u) 0) (w.alloc (.cells Lib.zeros24 76)) hH0 (by rw [Array.size_replicate]; exact Lib.lt_pow_nDigits u) hu.out (by rw [Array.size_replicate]; omega)
    rw [Array.size_replicate] at hfmt
    clear hal
    replace hH0 := Lib.hid hH0
    replace hfmt := Lib.hid hfmt
    go_enter Tryd.func38, Tryd.ntmps38
    go_wp2_with fail
    refine (Tryd.internal_strconv_numDigits u hu1 hu.out _ (Lib.tabIs_alloc htab.out _)).mono ?_
    rintro e w1 ⟨rfl, rfl⟩
    dsimp only
    go_wp2_with fail
    refine hfmt.out.mono ?_
    rintro e w1 ⟨rfl, k, v', dk, rfl, hF⟩
    dsimp only
    have hcv : (convert 65 9 (.slice (some ⟨w.heap.size, 0, none⟩) (Lib.nDigits u) 24)).run Tryd.prog ((putRow (fun (b : UInt8) => Value.int .u8 (b.toNat : Int)) (w.alloc (.cells Lib.zeros24 76)) w.heap.size 0 dk).drewN k) = .ok (.string (txt (Lib.decDigits u))) ((putRow (fun (b : UInt8) => Value.int .u8 (b.toNat : Int)) (w.alloc (.cells Lib.zeros24 76)) w.heap.size 0 dk).drewN k) := by
      have h := run_convert_bytes_back (P := Tryd.prog) ((putRow (fun (b : UInt8) => Value.int .u8 (b.toNat : Int)) (w.alloc (.cells Lib.zeros24 76)) w.heap.size 0 dk).drewN k) 65 9 5 ⟨w.heap.size, 0, none⟩ 24 (Lib.decDigits u) Tryd.underlying65 Tryd.underlying5 Tryd.underlying9 (fun j hj => by
        rw [Lib.row_is_numeral hF j hj, add_lit, World.cell?_drewN]
        have := cell?_putRow (fun (b : UInt8) => Value.int .u8 (b.toNat : Int)) _ w.heap.size 0 _ dk hH0.out (by rw [hF.size, Array.size_replicate]) j (by rw [hF.size]; rw [Lib.decDigits_length] at hj; exact hj)
        rwa [Nat.zero_add] at this)
      rw [Lib.decDigits_length] at h
      exact h
    have hmod : Mod none_ w ((putRow (fun (b : UInt8) => Value.int .u8 (b.toNat : Int)) (w.alloc (.cells Lib.zeros24 76)) w.heap.size 0 dk).drewN k) := by
      have h1 : Mod (fun k => k = w.heap.size) (w.alloc (.cells Lib.zeros24 76)) (putRow (fun (b : UInt8) => Value.int .u8 (b.toNat : Int)) (w.alloc (.cells Lib.zeros24 76)) w.heap.size 0 dk) := by
        refine ⟨rfl, rfl, rfl, ?_, fun j _ hj => ?_⟩
        · simp [putRow, mapBlock]
        · simp only [putRow, mapBlock]
          rw [Array.getElem?_modify, if_neg (fun e => hj e.symm)]
      exact (((Mod.refl none_ w).alloc _).then h1 (fun i hi hk => by omega)).drewN k
    replace hF := Lib.hid hF
    replace hmod := Lib.hid hmod
    go_wp2_with fail
    go_ret
    exact ⟨rfl, hmod.out⟩
set_option maxRecDepth 100000 in
theorem fmtu_ok (w : World) (u : Nat) (hu : u < 18446744073709551616) (ht : 100 ≤ u → Tab w) : Calls Tryd.prog 33 #[.int .u64 (u : Int), .int .i64 10] w fun e w' => e = .returned (.string (txt (Lib.decDigits u))) ∧ Mod none_ w w' := by
  replace hu := Lib.hid hu
  replace ht := Lib.hid ht
  go_enter Tryd.func33, Tryd.ntmps33
  go_wp2_with fail
  refine (ifmtu_ok _ u hu.out ht.out).mono ?_
  rintro e w1 ⟨rfl, hm⟩
  dsimp only
  replace hm := Lib.hid hm
  go_wp2_with fail
  go_ret
  exact ⟨rfl, hm.out⟩
theorem Tab.mod {w w1 : World} (h : Tab w) (hm : Mod none_ w w1) : Tab w1 := by
  unfold Tab Lib.TabIs World.var? at *
  cases hg : Tryd.prog.globalNamed "internal/strconv.uint64pow10" with
  | none => simp [hg] at h
  | some g =>
    simp only [hg, Option.bind_some] at h ⊢
    have hlt : g < w.heap.size := by
      rcases Nat.lt_or_ge g w.heap.size with h' | h'
      · exact h'
      · simp [Array.getElem?_eq_none h'] at h
    rw [hm.block g hlt (fun hh => hh)]
    exact h
end Go.Proofs.YtlikknamliamiaaDoor
