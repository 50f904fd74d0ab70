/-
  strings.IndexRune of a rune of two bytes or more in the signs of a name: -1.
-/
import Derived.Test.YtaohgefpnndjcaaRune
import Derived.Test.YtaohgefpnndjcaaShelf
import Derived.Laws.Runes
import Derived.BigQuiet
namespace Go.Proofs.Ytaohgefpnndjcaa
set_option linter.unusedVariables false
open Go.RowKit
def signs : ByteArray := ⟨#[97, 98, 99, 100, 101, 102, 103, 104, 105, 106, 107, 108, 109, 110, 111, 112, 113, 114, 115, 116, 117, 118, 119, 120, 121, 122, 48, 49, 50, 51, 52, 53, 54, 55, 56, 57]⟩
theorem ixb_none : ∀ (l : List UInt8) (c : UInt8), (∀ b ∈ l, b ≠ c) → Lib.indexByte l c = -1
  | [], _, _ => rfl
  | b :: l, c, h => by
    have h1 : (b == c) = false := by have := h b (by simp); simpa using this
    have h2 := ixb_none l c (fun x hx => h x (by simp [hx]))
    simp [Lib.indexByte, h1, h2]
theorem sign_small (b : UInt8) (h : b ∈ signs.data.toList) : b.toNat < 128 := by
  have : ∀ b ∈ signs.data.toList, b.toNat < 128 := by decide
  exact this b h
set_option maxRecDepth 1000000 in
set_option maxHeartbeats 4000000 in
theorem ixr_wide (w : World) (r : Nat) (h1 : 128 ≤ r) (hv : r < 55296 ∨ 57343 < r ∧ r ≤ 1114111) (hr : ¬ r = 65533) : Calls Try.prog 69 #[.string signs, .int .i32 (r : Int)] w fun e w' => e = .returned (.int .i64 (-1)) ∧ Mod none_ w w' := by
  have hsz : signs.size = 36 := rfl
  have hsg := sign_small
  generalize signs = sg at *
  have hok : validRune (r : Int) = true := by simp only [validRune, decide_eq_true_eq]; omega
  obtain ⟨g1, g2, g3⟩ := encode_facts (r : Int) (by rw [validRune_eq]; exact hok) (by omega)
  have hvr := fun W => Try.utf8_ValidRune (r : Int) W
  rw [show Lib.validRune (r : Int) = true from hok] at hvr
  obtain ⟨rs, hrs⟩ : ∃ rs, Utf8.encode (r : Int) = rs := ⟨_, rfl⟩
  rw [hrs] at g1 g2 g3
  obtain ⟨m, hm⟩ : ∃ m, rs.size = m + 1 := ⟨rs.size - 1, by omega⟩
  have hm1 : 1 ≤ m ∧ m ≤ 3 := by omega
  have hml : m < rs.size := by omega
  have hmg : m < sg.size := by omega
  have hwm : wrap64 (m : Int) = (m : Int) := IntWalk.wrap64_in _ ⟨by omega, by omega⟩
  have hlast : 128 ≤ (rs[m]'hml).toNat := by
    have := g3 (by omega)
    have e : rs.size - 1 = m := by omega
    simpa only [e] using this
  have hst : ∀ b ∈ (sg.extract (m+1) sg.size).data.toList, b ≠ rs[m]'hml := fun b hb e => by
    have := hsg b (mem_extract hb)
    rw [e] at this; omega
  have hfst : (sg[m]'hmg).toNat < 128 := hsg _ (Array.getElem_mem_toList (xs := sg.data) hmg)
  have i1 : ∀ W, (Instr.index 9 (.string sg) (.int .i64 (m : Int))).run Try.prog W = .ok (.int .u8 ((sg[m]'hmg).toNat : Int)) W := fun W => by
    rw [run_index_string W _ sg .i64 m Try.underlying9, dif_pos (by omega)]
    rfl
  have i2 : ∀ W, (Instr.index 9 (.string rs) (.int .i64 (m : Int))).run Try.prog W = .ok (.int .u8 ((rs[m]'hml).toNat : Int)) W := fun W => by
    rw [run_index_string W _ rs .i64 m Try.underlying9, dif_pos (by omega)]
    rfl
  have i3 : ∀ W, (Instr.slice 9 (.string sg) (some (.int .i64 ((m : Int) + 1))) none none).run Try.prog W = .ok (.string (sg.extract (m+1) sg.size)) W := fun W => by
    rw [run_slice_string_l W _ sg Try.underlying9 .i64 ((m:Int)+1) (by omega) (by omega)]
    rfl
  have i6 : ∀ W, (Instr.sliceAt 9 (.string sg) (some (.int .i64 ((m : Int) + 1))) none none).run Try.prog W = .ok (.string (sg.extract (m+1) sg.size)) W := fun W => by
    rw [run_sliceAt_string W _ _ _ _ _ Try.underlying9, i3 W]
  have i4 : ∀ W, Calls Try.prog 74 #[.string (sg.extract (m+1) sg.size), .int .u8 ((rs[m]'hml).toNat : Int)] W fun e w' => e = .returned (.int .i64 (-1)) ∧ w' = W := fun W => by
    have := Try.strings_IndexByte (sg.extract (m+1) sg.size) ((rs[m]'hml).toNat : Int) W
    rw [show (((rs[m]'hml).toNat : Int).toNat).toUInt8 = rs[m]'hml by simp, ixb_none _ _ hst] at this
    exact this
  have i5 : (((sg[m]'hmg).toNat : Int) == ((rs[m]'hml).toNat : Int)) = false := by simp; omega
  generalize ((rs[m]'hml).toNat : Int) = c at *
  generalize ((sg[m]'hmg).toNat : Int) = d at *
  generalize sg.extract (m+1) sg.size = st at *
  replace hok := Lib.hid hok
  replace hvr := Lib.hid hvr
  replace hv := Lib.hid hv
  replace g1 := Lib.hid g1
  replace g2 := Lib.hid g2
  replace g3 := Lib.hid g3
  replace hsg := Lib.hid hsg
  replace hrs := Lib.hid hrs
  replace hm := Lib.hid hm
  replace hm1 := Lib.hid hm1
  replace hsz := Lib.hid hsz
  replace hml := Lib.hid hml
  replace hmg := Lib.hid hmg
  replace hwm := Lib.hid hwm
  replace hlast := Lib.hid hlast
  replace hst := Lib.hid hst
  replace hfst := Lib.hid hfst
  replace i1 := Lib.hid i1
  replace i2 := Lib.hid i2
  replace i3 := Lib.hid i3
  replace i4 := Lib.hid i4
  replace i5 := Lib.hid i5
  replace i6 := Lib.hid i6
  go_enter Try.func69, Try.ntmps69
  go_wp2_with (go_step3)
  refine (hvr.out w).mono ?_
  rintro e w1 ⟨rfl, rfl⟩
  dsimp only
  have hm := hm.out
  have hm1 := hm1.out
  have hsz := hsz.out
  have hwm := hwm.out
  go_wp2_with (go_step3)
  rename_i K0 a0
  clear a0
  rw [hrs.out]
  rw [hrs.out] at *
  go_loopw [9, 10] (fun x y wr => x = .int .i64 (m : Int) ∧ y = .int .i64 0 ∧ w1 = wr) (fun _ _ _ => 0)
  case atStart =>
    refine ⟨?_, rfl, rfl⟩
    rw [hm, show (((m + 1 : Nat) : Int) - 1) = (m : Int) by omega, hwm]
  case round =>
    obtain ⟨rfl, rfl, rfl⟩ := hrel
    replace i1 := i1.out
    replace i2 := i2.out
    replace i3 := i3.out
    replace i6 := i6.out
    replace i5 := i5.out
    have i7 : IntKind.i64.wrap ((m : Int) + 1) = (m : Int) + 1 := wrap_small _ (by omega) (by omega)
    have i8 : ∀ W, (Instr.sliceAt 9 (.string sg) (some (.int .i64 (IntKind.i64.wrap ((m : Int) + 1)))) none none).run Try.prog W = .ok (.string st) W := fun W => by rw [i7]; exact i6 W
    have i9 : ∀ W, (Instr.slice 9 (.string sg) (some (.int .i64 (IntKind.i64.wrap ((m : Int) + 1)))) none none).run Try.prog W = .ok (.string st) W := fun W => by rw [i7]; exact i3 W
    clear i7
    go_wp2_with (first | go_step3 | (go_quiet ((go_at_call 74; exact (i4.out _).mono (fun e w' h => ⟨h.1, _, h.2⟩)))))
    rw [Exit.noGoto_ret]
    go_ret
    exact ⟨rfl, (Mod.refl none_ w1).drewN _⟩
end Go.Proofs.Ytaohgefpnndjcaa
