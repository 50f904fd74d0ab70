/-
  The contracts of chart.Name and of the reference's Name.
-/
import Derived.Test.YtaohgefpnndjcaaIxe
namespace Go.Proofs.Ytaohgefpnndjcaa
set_option linter.unusedVariables false
open Go.RowKit
def isSign (b : UInt8) : Bool := (97 ≤ b && b ≤ 122) || (48 ≤ b && b ≤ 57)
def nameB (l : List UInt8) : Bool := l.all isSign && decide (0 < l.length) && decide (l.length ≤ 8)
theorem sign_ix_nat : ∀ n, n < 256 → (decide (Lib.indexByte signs.data.toList n.toUInt8 < 0)) = !isSign n.toUInt8 := by decide +kernel
theorem sign_ix (b : UInt8) : (decide (Lib.indexByte signs.data.toList b < 0)) = !isSign b := by
  have := sign_ix_nat b.toNat b.toNat_lt
  rwa [show b.toNat.toUInt8 = b by simp] at this
theorem wide_not_sign (b : UInt8) (h : 128 ≤ b.toNat) : isSign b = false := by
  unfold isSign
  have h1 : ¬ b ≤ 122 := by rw [UInt8.le_iff_toNat_le]; show ¬ b.toNat ≤ 122; omega
  have h2 : ¬ b ≤ 57 := by rw [UInt8.le_iff_toNat_le]; show ¬ b.toNat ≤ 57; omega
  simp [h1, h2]
theorem name_no (s : ByteArray) (i : Nat) (h : i < s.size) (hs : isSign s[i] = false) : nameB s.data.toList = false := by
  unfold nameB
  have : s.data.toList.all isSign = false := by
    rw [List.all_eq_false]
    exact ⟨s[i], Array.getElem_mem_toList (xs := s.data) h, by rw [hs]; simp⟩
  rw [this]; rfl
theorem name_all (s : ByteArray) (h : ∀ i (h : i < s.size), isSign s[i] = true) : nameB s.data.toList = (decide (0 < s.size) && decide (s.size ≤ 8)) := by
  unfold nameB
  have e : s.data.toList.length = s.size := rfl
  have : s.data.toList.all isSign = true := by
    rw [List.all_eq_true]
    intro b hb
    obtain ⟨i, hi, rfl⟩ := List.getElem_of_mem hb
    exact h i hi
  rw [this, e, Bool.true_and]
theorem toList_empty (s : ByteArray) : s.toList.isEmpty = decide (s.size = 0) := by
  show (txt s.data.toList).toList.isEmpty = _
  rw [txt_toList]
  have e : s.data.toList.length = s.size := rfl
  rw [← e]
  cases s.data.toList <;> simp
theorem sget (s : ByteArray) (i : Nat) (h : i < s.size) : (s.get! i) = s[i] := by
  have := get_at s i h
  simpa using this
set_option maxRecDepth 1000000 in
set_option maxHeartbeats 2000000 in
theorem name_ok (w : World) (s : ByteArray) : Calls Try.prog 51 #[.string s] w fun e w' => e = .returned (.bool (nameB s.data.toList)) ∧ Mod none_ w w' := by
  have sg : (⟨#[97, 98, 99, 100, 101, 102, 103, 104, 105, 106, 107, 108, 109, 110, 111, 112, 113, 114, 115, 116, 117, 118, 119, 120, 121, 122, 48, 49, 50, 51, 52, 53, 54, 55, 56, 57]⟩ : ByteArray) = signs := rfl
  have ca := Lib.hid (fun (W : World) (r : Nat) (h : r < 128) => Try.strings_IndexRune_ascii signs (r : Int) W (by omega) (by omega))
  have cw := Lib.hid (fun (W : World) (r : Nat) h1 h2 => ixr_any W r h1 h2)
  go_enter Try.func51, Try.ntmps51
  go_wp2_with fail
  go_loopw [] (fun wr => ∃ pos : Nat, wr.heap[w.heap.size]? = some (.stringIter s pos) ∧ Mod none_ w wr ∧ pos ≤ s.size ∧ ∀ i (h : i < s.size), i < pos → isSign s[i] = true) (fun wr => s.size - wr.iterPos w.heap.size)
  case atStart =>
    refine ⟨0, World.iter_heap w s 0, ?_, by omega, fun i _ h => by omega⟩
    exact (Mod.refl none_ w).alloc _
  case round =>
    obtain ⟨pos, hit, hm, hp, hall⟩ := hrel
    have hsz : w.heap.size < wr.heap.size := (Array.getElem?_eq_some_iff.1 hit).1
    by_cases hlt : pos < s.size
    · have hnx : ∀ ty, (Instr.next (.pointer (some ⟨w.heap.size, 0, none⟩)) true ty).run Try.prog wr = _ := fun ty => Lib.run_next_any_at wr w.heap.size s pos ty hit hlt
      have hm2 : Mod none_ w (wr.iterAt w.heap.size s (pos + (Utf8.decode s pos).2)) := Mod.of_below (Lib.below_iterAt hm.below0 (k := w.heap.size) (by omega) s _)
      have hit2 := Lib.iterAt_heap wr w.heap.size s pos (pos + (Utf8.decode s pos).2) hit
      by_cases hb : (s[pos]'hlt).toNat < 128
      · rw [decode_ascii s pos hlt hb] at hnx hm2 hit2
        have hix := sign_ix (s[pos]'hlt)
        have hc := Lib.hid (fun W => ca.out W (s[pos]'hlt).toNat hb)
        have eb : (((s[pos]'hlt).toNat : Int).toNat).toUInt8 = s[pos]'hlt := by simp
        rw [eb] at hc
        cases hs : isSign (s[pos]'hlt) with
        | true =>
          rw [hs] at hix
          have hix2 : ¬ (Lib.indexByte signs.data.toList (s[pos]'hlt) < 0) := by simpa using hix
          have hnext : ∀ i (h : i < s.size), i < pos + 1 → isSign s[i] = true := by
            intro i h h1
            by_cases e : i = pos
            · subst e; exact hs
            · exact hall i h (by omega)
          generalize Lib.indexByte signs.data.toList (s[pos]'hlt) = v at *
          unfold signs at hc
          replace hall := Lib.hid hall
          replace hm := Lib.hid hm
          replace hit := Lib.hid hit
          replace hm2 := Lib.hid hm2
          replace hit2 := Lib.hid hit2
          replace hix := Lib.hid hix
          replace hnext := Lib.hid hnext
          replace hs := Lib.hid hs
          replace hb := Lib.hid hb
          replace eb := Lib.hid eb
          go_wp2_with fail
          refine (hc.out _).mono ?_
          rintro e w1 ⟨rfl, rfl⟩
          dsimp only
          go_wp2_with fail
          go_roundw
          case rel => exact ⟨pos + 1, hit2.out, hm2.out, by omega, hnext.out⟩
          case measure => simp only [World.iterPos, hit2.out, hit.out]; omega
        | false =>
          rw [hs] at hix
          have hix2 : Lib.indexByte signs.data.toList (s[pos]'hlt) < 0 := by simpa using hix
          have hno := name_no s pos hlt hs
          generalize Lib.indexByte signs.data.toList (s[pos]'hlt) = v at *
          unfold signs at hc
          replace hall := Lib.hid hall
          replace hm := Lib.hid hm
          replace hit := Lib.hid hit
          replace hm2 := Lib.hid hm2
          replace hit2 := Lib.hid hit2
          replace hix := Lib.hid hix
          replace hs := Lib.hid hs
          replace hb := Lib.hid hb
          replace eb := Lib.hid eb
          go_wp2_with fail
          refine (hc.out _).mono ?_
          rintro e w1 ⟨rfl, rfl⟩
          dsimp only
          go_wp2_with fail
          go_ret
          refine ⟨?_, hm2.out⟩
          rw [hno]; rfl
      · have hd := decode_high s pos hlt (by omega)
        have hdv : (Utf8.decode s pos).1 < 55296 ∨ (57343 < (Utf8.decode s pos).1 ∧ (Utf8.decode s pos).1 ≤ 1114111) := by
          rw [Lib.decode_at]
          exact Lib.decodeN_valid _ _ _ _ _ (UInt8.toNat_lt _)
        have hc := Lib.hid (fun W => cw.out W _ hd.1 hdv)
        have hno := name_no s pos hlt (wide_not_sign _ (by omega))
        generalize (Utf8.decode s pos).1 = r at *
        generalize (Utf8.decode s pos).2 = k at *
        unfold signs at hc
        replace hall := Lib.hid hall
        replace hm := Lib.hid hm
        replace hit := Lib.hid hit
        replace hm2 := Lib.hid hm2
        replace hit2 := Lib.hid hit2
        replace hd := Lib.hid hd
        replace hdv := Lib.hid hdv
        replace hb := Lib.hid hb
        go_wp2_with fail
        refine (hc.out _).mono ?_
        rintro e w1 ⟨rfl, hm3⟩
        dsimp only
        replace hm3 := Lib.hid hm3
        go_wp2_with fail
        go_ret
        refine ⟨?_, hm2.out.then hm3.out (fun _ _ h => h)⟩
        rw [hno]; rfl
    · have hnx : ∀ ty, (Instr.next (.pointer (some ⟨w.heap.size, 0, none⟩)) true ty).run Try.prog wr = _ := fun ty => Lib.run_next_end_at wr w.heap.size s pos ty hit hlt
      have hres := name_all s (fun i h => hall i h (by omega))
      have he := toList_empty s
      by_cases hz : s.size = 0
      · rw [decide_eq_true hz] at he
        replace hall := Lib.hid hall
        replace hm := Lib.hid hm
        replace hit := Lib.hid hit
        go_wp2_with fail
        go_ret
        refine ⟨?_, hm.out⟩
        rw [hres, hz]; rfl
      · rw [decide_eq_false hz] at he
        replace hall := Lib.hid hall
        replace hm := Lib.hid hm
        replace hit := Lib.hid hit
        go_wp2_with fail
        go_ret
        refine ⟨?_, hm.out⟩
        rw [hres, decide_eq_true (show 0 < s.size by omega), Bool.true_and]
        show Ending.returned (.bool (decide ((s.size : Int) ≤ 8))) = _
        congr 2
        exact decide_eq_decide.2 (by omega)
end Go.Proofs.Ytaohgefpnndjcaa
