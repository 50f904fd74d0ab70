/-
  The contract of chart's Open.
-/
import Derived.Test.YtaohgefpnndjcaaChGive
import Derived.Test.YtaohgefpnndjcaaName
namespace Go.Proofs.Ytaohgefpnndjcaa
set_option linter.unusedVariables false
open Go.RowKit
def openR (C : List Ac) (s : List UInt8) (x : Int) : List Ac × Int :=
  if nameB s = false ∨ x < 0 then (C, 1) else if (getC C s).isSome then (C, 7) else if C.length = 12 then (C, 5) else (insC ⟨s, 0, 0, x⟩ C, 0)
set_option maxRecDepth 100000 in
set_option maxHeartbeats 2000000 in
theorem open_arg (w : World) (p b : Nat) (C : List Ac) (s : ByteArray) (x : Int) (hc : ChAt w p b C) (h : nameB s.data.toList = false ∨ x < 0) :
    Calls Try.prog 26 #[.pointer (some ⟨p, 0, none⟩), .string s, .int .i64 x] w (ChPost w p b (openR C s.data.toList x)) := by
  have cn := Lib.hid (name_ok w s)
  unfold openR
  rw [if_pos h]
  cases hn : nameB s.data.toList with
  | false =>
    rw [hn] at cn
    replace hc := Lib.hid hc
    replace h := Lib.hid h
    replace hn := Lib.hid hn
    go_enter Try.func26, Try.ntmps26
    go_wp2_with fail
    refine cn.out.mono ?_
    rintro e w1 ⟨rfl, hm⟩
    dsimp only
    replace hm := Lib.hid hm
    go_wp2_with fail
    go_ret
    exact ⟨rfl, hc.out.mod0 hm.out, hm.out.any _⟩
  | true =>
    rw [hn] at cn h
    have hx : x < 0 := by rcases h with h | h; cases h; exact h
    clear h
    replace hc := Lib.hid hc
    replace hn := Lib.hid hn
    go_enter Try.func26, Try.ntmps26
    go_wp2_with fail
    refine cn.out.mono ?_
    rintro e w1 ⟨rfl, hm⟩
    dsimp only
    replace hm := Lib.hid hm
    go_wp2_with fail
    go_ret
    exact ⟨rfl, hc.out.mod0 hm.out, hm.out.any _⟩
set_option maxRecDepth 100000 in
set_option maxHeartbeats 2000000 in
theorem open_go (w : World) (p b : Nat) (C : List Ac) (s : ByteArray) (x : Int) (hc : ChAt w p b C) (hs : s.size ≤ maxLen) (hroom : C.length + 1 < maxLen) (hn : nameB s.data.toList = true) (hx : ¬ x < 0) :
    Calls Try.prog 26 #[.pointer (some ⟨p, 0, none⟩), .string s, .int .i64 x] w (ChPost w p b (openR C s.data.toList x)) := by
  have cn := Lib.hid (name_ok w s)
  rw [hn] at cn
  unfold openR
  rw [if_neg (by rintro (h | h); rw [hn] at h; cases h; exact hx h)]
  have hf := find_ents C s.data.toList
  have hlen : (ents C).length = C.length := by unfold ents; rw [List.length_map]
  cases hg : getC C s.data.toList with
  | some a =>
    rw [hg] at hf
    rw [if_pos (show (some a).isSome = true from rfl)]
    replace hc := Lib.hid hc
    replace hn := Lib.hid hn
    replace hs := Lib.hid hs
    replace hf := Lib.hid hf
    replace hg := Lib.hid hg
    replace hroom := Lib.hid hroom
    replace hlen := Lib.hid hlen
    go_enter Try.func26, Try.ntmps26
    go_wp2_with fail
    refine cn.out.mono ?_
    rintro e w1 ⟨rfl, hm⟩
    dsimp only
    have hch1 := hc.out.mod0 hm
    have hcell : w1.cell? ⟨p, 0, none⟩ = some (.map (some b)) := hch1.1.cell_ rfl
    have hlt := hch1.1.lt
    replace hm := Lib.hid hm
    replace hch1 := Lib.hid hch1
    go_wp2_with (refine map_look_ok _ rfl (.tmp 24) (.tmp 25) _ rfl 9 46 Try.underlying67 Try.underlying9 (zeroA_run _) b _ rfl hch1.out.2.1 s hs.out rfl ?_; rw [hf.out]; simp only [Option.map_some, Option.getD_some, Option.isSome_some, acV])
    go_ret
    exact ⟨rfl, hch1.out.alloc _, (hm.out.alloc _).any _⟩
  | none =>
    rw [hg] at hf
    rw [if_neg (by simp)]
    by_cases hl : C.length = 12
    · rw [if_pos hl]
      have hle : ((ents C).length : Int) = 12 := by omega
      replace hc := Lib.hid hc
      replace hn := Lib.hid hn
      replace hs := Lib.hid hs
      replace hf := Lib.hid hf
      replace hg := Lib.hid hg
      replace hroom := Lib.hid hroom
      replace hlen := Lib.hid hlen
      replace hl := Lib.hid hl
      go_enter Try.func26, Try.ntmps26
      go_wp2_with fail
      refine cn.out.mono ?_
      rintro e w1 ⟨rfl, hm⟩
      dsimp only
      have hch1 := hc.out.mod0 hm
      have hcell : w1.cell? ⟨p, 0, none⟩ = some (.map (some b)) := hch1.1.cell_ rfl
      have hlt := hch1.1.lt
      replace hm := Lib.hid hm
      replace hch1 := Lib.hid hch1
      go_wp2_with (first
        | (refine map_look_ok _ rfl (.tmp 24) (.tmp 25) _ rfl 9 46 Try.underlying67 Try.underlying9 (zeroA_run _) b _ rfl hch1.out.2.1 s hs.out rfl ?_; rw [hf.out]; simp only [Option.map_none, Option.getD_none, Option.isSome_none, zeroA])
        | (refine map_len _ rfl (.tmp 35) _ rfl 9 46 Try.underlying67 b _ rfl (hch1.out.2.1.alloc _) ?_; rw [hle]))
      go_ret
      exact ⟨rfl, hch1.out.alloc _, (hm.out.alloc _).any _⟩
    · rw [if_neg hl]
      have hle : (((ents C).length : Int) == 12) = false := by simp; omega
      have hput := put_new (C := C) (a := ⟨s.data.toList, 0, 0, x⟩) hg
      replace hc := Lib.hid hc
      replace hn := Lib.hid hn
      replace hs := Lib.hid hs
      replace hf := Lib.hid hf
      replace hg := Lib.hid hg
      replace hroom := Lib.hid hroom
      replace hlen := Lib.hid hlen
      replace hl := Lib.hid hl
      replace hput := Lib.hid hput
      go_enter Try.func26, Try.ntmps26
      go_wp2_with fail
      refine cn.out.mono ?_
      rintro e w1 ⟨rfl, hm⟩
      dsimp only
      have hch1 := hc.out.mod0 hm
      have hcell : w1.cell? ⟨p, 0, none⟩ = some (.map (some b)) := hch1.1.cell_ rfl
      have hlt := hch1.1.lt
      replace hm := Lib.hid hm
      replace hch1 := Lib.hid hch1
      go_wp2_with (first
        | (refine map_look_ok _ rfl (.tmp 24) (.tmp 25) _ rfl 9 46 Try.underlying67 Try.underlying9 (zeroA_run _) b _ rfl hch1.out.2.1 s hs.out rfl ?_; rw [hf.out]; simp only [Option.map_none, Option.getD_none, Option.isSome_none, zeroA])
        | (refine map_len _ rfl (.tmp 35) _ rfl 9 46 Try.underlying67 b _ rfl (hch1.out.2.1.alloc _) ?_)
        | (refine map_store _ rfl (.tmp 41) (.tmp 42) (.tmp 45) _ rfl 9 46 Try.underlying67 Try.underlying9 b _ rfl (hch1.out.2.1.alloc _) (by rw [hlen.out]; exact hroom.out) s hs.out rfl (acV ⟨s.data.toList, 0, 0, x⟩) rfl ?_; intro W' hM' hm' hsz'; rw [hput.out] at hM'; replace hM' := Lib.hid hM'; replace hm' := Lib.hid hm'; replace hsz' := Lib.hid hsz'))
      go_ret
      exact ⟨rfl, ⟨(hch1.out.1.alloc _).mod hm'.out hch1.out.2.2, hM'.out, hch1.out.2.2⟩, ((hm.out.alloc _).any _).trans hm'.out⟩
end Go.Proofs.Ytaohgefpnndjcaa
