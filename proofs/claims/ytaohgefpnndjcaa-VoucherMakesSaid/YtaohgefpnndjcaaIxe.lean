/-
  strings.IndexRune of the rune that stands for none, in the signs of a name: -1.
-/
import Derived.Test.YtaohgefpnndjcaaIxr
import Derived.Lib.OthersKept
import Derived.LoopTactic
namespace Go.Proofs.Ytaohgefpnndjcaa
set_option linter.unusedVariables false
open Go.RowKit
set_option maxRecDepth 1000000 in
set_option maxHeartbeats 4000000 in
theorem ixr_err (w : World) : Calls Try.prog 69 #[.string signs, .int .i32 65533] w fun e w' => e = .returned (.int .i64 (-1)) ∧ Mod none_ w w' := by
  have hsz : signs.size = 36 := rfl
  have hsg := sign_small
  generalize signs = sg at *
  replace hsz := Lib.hid hsz
  replace hsg := Lib.hid hsg
  go_enter Try.func69, Try.ntmps69
  go_wp2_with fail
  go_loopw [] (fun wr => ∃ pos : Nat, wr.heap[w.heap.size]? = some (.stringIter sg pos) ∧ Mod none_ w wr ∧ pos ≤ sg.size) (fun wr => sg.size - wr.iterPos w.heap.size)
  case atStart => exact ⟨0, World.iter_heap w sg 0, (Mod.refl none_ w).alloc _, by omega⟩
  case round =>
    obtain ⟨pos, hit, hm, hp⟩ := hrel
    have hs2 : w.heap.size < wr.heap.size := (Array.getElem?_eq_some_iff.1 hit).1
    by_cases hlt : pos < sg.size
    · have hnx : ∀ ty, (Instr.next (.pointer (some ⟨w.heap.size, 0, none⟩)) true ty).run Try.prog wr = _ := fun ty => Lib.run_next_any_at wr w.heap.size sg pos ty hit hlt
      have hm2 : Mod none_ w (wr.iterAt w.heap.size sg (pos + (Utf8.decode sg pos).2)) := Mod.of_below (Lib.below_iterAt hm.below0 (k := w.heap.size) (by omega) sg _)
      have hit2 := Lib.iterAt_heap wr w.heap.size sg pos (pos + (Utf8.decode sg pos).2) hit
      have hb : (sg[pos]'hlt).toNat < 128 := hsg.out _ (Array.getElem_mem_toList (xs := sg.data) hlt)
      rw [decode_ascii sg pos hlt hb] at hnx hm2 hit2
      have hne : (((sg[pos]'hlt).toNat : Int) == 65533) = false := by simp; omega
      generalize (sg[pos]'hlt).toNat = v at *
      replace hm := Lib.hid hm
      replace hit := Lib.hid hit
      replace hm2 := Lib.hid hm2
      replace hit2 := Lib.hid hit2
      replace hb := Lib.hid hb
      go_wp2_with fail
      go_roundw
      case rel => exact ⟨pos + 1, hit2.out, hm2.out, by omega⟩
      case measure => simp only [World.iterPos, hit2.out, hit.out]; omega
    · have hnx : ∀ ty, (Instr.next (.pointer (some ⟨w.heap.size, 0, none⟩)) true ty).run Try.prog wr = _ := fun ty => Lib.run_next_end_at wr w.heap.size sg pos ty hit hlt
      replace hm := Lib.hid hm
      replace hit := Lib.hid hit
      go_wp2_with fail
      go_ret
      exact ⟨rfl, hm.out⟩
theorem ixr_any (w : World) (r : Nat) (h1 : 128 ≤ r) (hv : r < 55296 ∨ 57343 < r ∧ r ≤ 1114111) : Calls Try.prog 69 #[.string signs, .int .i32 (r : Int)] w fun e w' => e = .returned (.int .i64 (-1)) ∧ Mod none_ w w' := by
  by_cases h : r = 65533
  · subst h; exact ixr_err w
  · exact ixr_wide w r h1 hv h
end Go.Proofs.Ytaohgefpnndjcaa
