/-
  The contracts of pack.New, pack.Text, pack.Nums. No condition.
-/
import Derived.Test.YtnjgcdijpkbloaaRdr
import Derived.Test.YtnjgcdijpkbloaaConcat
import Derived.Test.YtnjgcdijpkbloaaCopy
import Derived.Test.YtnjgcdijpkbloaaConvB
import Derived.Deep.DeepCutAuto
namespace Go.Proofs.Ytnjgcdijpkbloaa
open Go.RowKit
theorem u8size : (Try.prog.info? 5).map (·.size) = some 1 := by kernel_rfl
def NewPost (w : World) (l : List UInt8) (en : Ending) (w' : World) : Prop := ∃ g B, en = .returned (.pointer (some ⟨g, 0, none⟩)) ∧ Rdr w' g B l 0 ∧ w.heap.size ≤ g ∧ w.heap.size ≤ B ∧ B < w'.heap.size ∧ Mod none_ w w'
set_option maxRecDepth 100000 in
theorem new_ok (w : World) (A : Option Addr) (n c : Nat) (l : List UInt8) (h : RdB w A n l) (hn : n ≤ 140737488351232) : Calls Try.prog 15 #[.slice A n c] w (NewPost w l) := by
  have hl := h.len
  subst hl
  have hmk := make_run (P := Try.prog) w 37 5 _ _ l.length Try.underlying37 u8info rfl (by omega) (by omega)
  replace h := Lib.hid h
  go_enter Try.func15, Try.ntmps15
  go_wp2_with (show wpList _ _ _ (⟨some 14, _, _, _, _, _⟩ :: _) _ _; go_loud (refine copy_all (cur := madeCells #[.int .u8 0] l.length) (xs := bvs l) rfl (.tmp 12) (.tmp 13) 37 37 5 rfl Try.underlying37 u8size rfl rfl ?c1 ?c2 ?c3 ?c4 ?c5 ?_))
  case c1 => exact (Blk.new w _ _).alloc _
  case c2 => exact size_madeCells _ _
  case c3 => unfold maxLen; omega
  case c4 => exact h.out.mod0 (((Mod.refl none_ w).alloc _).alloc _)
  case c5 => exact bvs_one l
  intro w' ho hm
  have hb : Blk w' (w.heap.size + 1) 49 #[.slice (some ⟨w.heap.size, 0, none⟩) l.length l.length, .int .i64 ((0 : Nat) : Int)] := by
    have := Blk.new (w.alloc (.cells (madeCells #[.int .u8 0] l.length) 5)) 49 #[.slice (some ⟨w.heap.size, 0, none⟩) l.length l.length, .int .i64 ((0 : Nat) : Int)]
    simp only [World.size_alloc] at this
    exact this.mod hm (by simp)
  have hsz := hm.size
  simp only [World.size_alloc] at hsz
  replace ho := Lib.hid ho
  replace hm := Lib.hid hm
  replace hb := Lib.hid hb
  go_wp2_with fail
  go_ret
  refine ⟨w.heap.size + 1, w.heap.size, rfl, ⟨_, _, _, hb.out, ho.out.rd, by omega, by omega, ?_, by omega⟩, by omega, by omega, by omega, ?_⟩
  · rintro j ⟨a, ha, rfl⟩; cases ha; rfl
  · exact (((Mod.refl none_ w).alloc _).alloc _).then hm.out (fun i hi hk => by omega)
def BytesPost (w : World) (l : List UInt8) (e : Ending) (w' : World) : Prop := ∃ A c, e = .returned (.slice A l.length c) ∧ OwB w' 5 A l.length c l ∧ Fresh w A ∧ Mod none_ w w'
/-- A text's bytes. -/
def txtB (s : List UInt8) : List UInt8 := vb (zig (s.length : Int)) ++ s
theorem zig_nat (n : Nat) : zig (n : Int) = 2 * n := by unfold zig; rw [if_pos (by omega)]; omega
theorem NumPost.nat {w : World} {n : Int} {e : Ending} {w' : World} (h : NumPost w n e w') : ∃ A k c, e = .returned (.slice A k c) ∧ OwB w' 5 A k c (vb (zig n)) ∧ Fresh w A ∧ Mod none_ w w' ∧ k ≤ 10 := h
set_option maxRecDepth 100000 in
theorem text_ok (w : World) (s : List UInt8) (hs : s.length ≤ 1000000000000) : Calls Try.prog 14 #[.string (txt s)] w (BytesPost w (txtB s)) := by
  have hsz : (txt s).size = s.length := by simp [txt, ByteArray.size]
  go_enter Try.func14, Try.ntmps14
  go_wp2_with fail
  refine (num_ok _ (s.length : Int) (by omega) (by omega)).mono ?_
  rintro e w1 ⟨A, k, c, rfl, ho, hf, hm, hk⟩
  dsimp only
  replace ho := Lib.hid ho
  replace hf := Lib.hid hf
  replace hm := Lib.hid hm
  replace hsz := Lib.hid hsz
  go_wp2_with (show wpList _ _ _ (⟨some 7, _, _, _, _, _⟩ :: _) _ _; go_loud (refine conv_b rfl (.tmp 6) rfl rfl ?_; intro A2 c2 w2 hr2 hf2 hc2 hm2 hl2; replace hr2 := Lib.hid hr2; replace hf2 := Lib.hid hf2; replace hm2 := Lib.hid hm2; replace hl2 := Lib.hid hl2))
  refine (concat2_ok _ w2.heap.size A A2 k s.length c c2 _ _ (rdn w2 _ 1 2 _ #[.slice A k c, .slice A2 s.length c2] (0, 0) rfl rfl) ((ho.out.rd.mod0 hm2.out).alloc _) (Rd.alloc hr2.out _) (by omega)).mono ?_
  rintro e w3 ⟨A3, c3, rfl, ho3, hf3, hm3⟩
  dsimp only
  have hlen := ho3.len
  rw [List.length_append] at hlen
  have hmm := (((hm.out.trans hm2.out).alloc (.cells #[.slice A k c, .slice A2 s.length c2] 37)))
  replace ho3 := Lib.hid ho3
  replace hf3 := Lib.hid hf3
  replace hm3 := Lib.hid hm3
  replace hlen := Lib.hid hlen
  replace hmm := Lib.hid hmm
  go_wp2_with fail
  go_ret
  have el : (txtB s).length = k + s.length := by have := hlen.out; rw [txtB, List.length_append]; omega
  refine ⟨A3, c3, by rw [el]; rfl, by rw [el]; exact ho3.out, hf3.out.later hmm.out.size, hmm.out.trans hm3.out⟩
/-- A list's bytes. -/
def numsB (xs : List Int) : List UInt8 := vb (zig (xs.length : Int)) ++ xs.flatMap fun x => vb (zig x)
def i64In (xs : List Int) : Prop := ∀ x ∈ xs, -9223372036854775808 ≤ x ∧ x ≤ 9223372036854775807
theorem rdi_at {w : World} {A : Option Addr} {n : Nat} {xs : List Int} (h : RdI w A n xs) {j : Nat} (hj : j < n) : ∃ b o x, A = some ⟨b, o, none⟩ ∧ xs[j]? = some x ∧ w.cell? ⟨b, o + j, none⟩ = some (.int .i64 x) := by
  obtain ⟨b, o, e, hc⟩ := Rd.form h (by omega) (by omega)
  have hl : j < xs.length := by rw [h.len]; exact hj
  exact ⟨b, o, xs[j], e, List.getElem?_eq_getElem hl, hc j _ (ivs_get hl)⟩
def NmRel (w : World) (xs : List Int) (j : Nat) (v : Value) (wr : World) : Prop :=
  ∃ A t c, v = .slice A t c ∧ OwB wr 5 A t c (vb (zig (xs.length : Int)) ++ (xs.take j).flatMap fun x => vb (zig x)) ∧ Fresh w A ∧ Mod none_ w wr ∧ t ≤ 10 * (j + 1)
set_option maxRecDepth 100000 in
set_option maxHeartbeats 1000000 in
theorem nums_ok (w : World) (A : Option Addr) (n c : Nat) (xs : List Int) (h : RdI w A n xs) (hn : n ≤ 1000000000000) (hin : i64In xs) : Calls Try.prog 13 #[.slice A n c] w (BytesPost w (numsB xs)) := by
  have hl := h.len
  replace h := Lib.hid h
  replace hl := Lib.hid hl
  replace hin := Lib.hid hin
  go_enter Try.func13, Try.ntmps13
  go_wp2_with fail
  refine (num_ok _ (n : Int) (by omega) (by omega)).mono ?_
  rintro e w1 ⟨B, k, d, rfl, ho, hf, hm, hk⟩
  dsimp only
  rw [← hl.out] at ho
  replace ho := Lib.hid ho
  replace hf := Lib.hid hf
  replace hm := Lib.hid hm
  go_wp2_with fail
  go_loopw [3, 11] (fun v x wr => ∃ j : Nat, x = .int .i64 j ∧ j ≤ n ∧ NmRel w xs j v wr) (fun _ x _ => n - (intOf x).toNat)
  case atStart => exact ⟨0, rfl, by omega, B, k, d, rfl, by simpa using ho.out, hf.out, hm.out, by omega⟩
  case round =>
    obtain ⟨j, rfl, hj, B, t, d, rfl, ho, hf, hm, ht⟩ := hrel
    replace ho := Lib.hid ho
    replace hf := Lib.hid hf
    replace hm := Lib.hid hm
    by_cases hlt : j < n
    · obtain ⟨b, o, x, rfl, hx, hcell⟩ := rdi_at (Rd.mod0 h.out hm.out) hlt
      obtain ⟨x1, x2⟩ := hin.out x (List.mem_of_getElem? hx)
      replace hx := Lib.hid hx
      go_wp2_with fail
      refine (num_ok _ x x1 x2).mono ?_
      rintro e w2 ⟨C, k2, d2, rfl, ho2, hf2, hm2, hk2⟩
      dsimp only
      clear hcell
      have ho' := ho.out.mod0 hm2
      have hmm := hm.out.trans hm2
      replace ho2 := Lib.hid ho2
      replace hf2 := Lib.hid hf2
      replace hm2 := Lib.hid hm2
      replace ho' := Lib.hid ho'
      replace hmm := Lib.hid hmm
      go_wp2_with (at_builtin; go_loud (refine app8 rfl (.tmp 15) (.tmp 17) rfl rfl ho'.out rfl ho2.out.rd (by omega) ?_; intro A' c' w' h1 h2 h3; replace h1 := Lib.hid h1; replace h2 := Lib.hid h2; replace h3 := Lib.hid h3))
      go_roundw
      case rel =>
        refine ⟨j + 1, by go_num, by omega, A', t + k2, c', rfl, ?_, Fresh.app hf.out hmm.out.size h3.out, hmm.out.app hf.out h2.out, by omega⟩
        have e : xs.take (j + 1) = xs.take j ++ [x] := by rw [List.take_add_one, hx.out]; rfl
        have := h1.out
        rw [e, List.flatMap_append]
        simpa using this
      case measure => simp [intOf]; omega
    · have e : Hid (vb (zig (xs.length : Int)) ++ (xs.take j).flatMap (fun x => vb (zig x)) = numsB xs) := by
        refine Lib.hid ?_
        rw [List.take_of_length_le (by have := hl.out; omega)]; rfl
      go_wp2_with fail
      go_ret
      have h1 := ho.out
      rw [e.out] at h1
      have h2 := h1.len
      exact ⟨B, d, by rw [h2]; rfl, by rw [h2]; exact h1, hf.out, hm.out⟩
end Go.Proofs.Ytnjgcdijpkbloaa
