/-
  Contracts of slices.Grow from nil and slices.Concat of two. No condition.
-/
import Derived.Test.YtnjgcdijpkbloaaApp
namespace Go.Proofs.Ytnjgcdijpkbloaa
open Go.RowKit

theorem run_append_zeros_nil {P : Program} (w : World) (t u ty e : TypeId) (k : IntKind) (i : TypeInfo) (z : Value) (ht : P.underlying t = some (.slice e)) (hu : P.underlying u = some (.int k)) (hi : P.info? e = some i) (hz : i.zero = some z)
    (n : Nat) (h0 : 0 < n) (h48 : n * i.bytes ≤ 281474976710656) (h63 : (n : Int) ≤ 9223372036854775807) (hs : 0 < i.size) :
    (Builtin.append_ #[t, u] ty #[.slice none 0 0, .int k (n : Int)]).run P w =
      .ok (.slice (some ⟨w.heap.size, 0, none⟩) n (grownCap w n 0 e)) (w.drew.alloc (.cells (Builtin.zeroCells z.cells n ++ Builtin.zeroCells z.cells (grownCap w n 0 e - n)) e)) := by
  have hn : n ≠ 0 := by omega
  have hw : IntKind.i64.wrap (n : Int) = n := IntWalk.i64_in _ (by omega)
  have h63' : ¬ (9223372036854775807 < (n : Int)) := by omega
  have h48' : ¬ (281474976710656 < Builtin.nextslicecap n 0 * i.bytes) := by rw [nextslicecap_zero h0]; omega
  have h48i : ¬ ((281474976710656 : Int) < (n : Int) * (i.bytes : Int)) := by
    have : ((n * i.bytes : Nat) : Int) ≤ 281474976710656 := by omega
    rw [Int.natCast_mul] at this
    omega
  have hneg : ¬ ((n : Int) < 0) := by omega
  have hns : ¬ n * i.size = 0 := Nat.ne_of_gt (Nat.mul_pos h0 hs)
  simp [Builtin.append_, run_underlying ht, run_underlying hu, sizeOf, typeInfo, zeroValue, hi, hz, Builtin.lenOf, hn, hw, asInt, asIntOf, hneg, h48i, h63', h48', hns, Question.forced, run_firstCells_none, newRow, grownCap]

theorem wpList_append_zeros_nil {P : Program} {w : World} {ops : Array Oper} {rest : List Oper} {o : Oper} {a : Act} {Q : Exit → Act → World → Prop} (hgd : o.guard = none) (s x : Operand) (t u : TypeId)
    (ho : o.op = .call { callee := .builtin .append, args := #[s, x], argTypes := #[t, u] }) (e : TypeId) (k : IntKind) (i : TypeInfo) (z : Value) (ht : P.underlying t = some (.slice e)) (hu : P.underlying u = some (.int k)) (hi : P.info? e = some i) (hz : i.zero = some z)
    (n : Nat) (h0 : 0 < n) (h48 : n * i.bytes ≤ 281474976710656) (h63 : (n : Int) ≤ 9223372036854775807) (hsz : 0 < i.size) (hs : a.eval s = .slice none 0 0) (hx : a.eval x = .int k (n : Int))
    (h : wpList P ops Q rest (a.put o.dst (.slice (some ⟨w.heap.size, 0, none⟩) n (grownCap w n 0 e))) (w.drew.alloc (.cells (Builtin.zeroCells z.cells n ++ Builtin.zeroCells z.cells (grownCap w n 0 e - n)) e))) :
    wpList P ops Q (o :: rest) a w :=
  wpList_plain hgd fun _ hK => by
    unfold Oper.wp execOp
    simp only [ho, resolve, invoke, builtin, Sem.run_bind, Sem.run_pure, Result.andThen_ok, List.map_toArray, List.map_cons, List.map_nil, hs, hx, run_append_zeros_nil w t u o.type e k i z ht hu hi hz n h0 h48 h63 hsz]
    exact hK _ _ h

/-- What Grow leaves: an empty row with room. -/
theorem grow_ok (w : World) (n : Nat) (hn : n ≤ 140737488355328) : Calls Try.prog 25 #[.slice none 0 0, .int .i64 (n : Int)] w fun e w' =>
    ∃ A' c', e = .returned (.slice A' 0 c') ∧ OwB w' 5 A' 0 c' [] ∧ Fresh w A' ∧ Mod none_ w w' := by
  obtain ⟨i0, hi, hz0, hz1, hz2⟩ := info_parts u8info
  rcases Nat.eq_zero_or_pos n with h0 | h0
  · subst h0
    go_enter Try.func25, Try.ntmps25
    go_wp2
    go_ret
    exact ⟨none, 0, rfl, Ow.nil _ _ _, (fun _ h => by cases h), Mod.refl _ _⟩
  · have hg1 := grownCap_le_maxLen w n 0 5 (by simp only [maxLen]; omega)
    have hg0 := grownCap_ge w n 0 5
    have hcl : ∀ c, c = grownCap w n 0 5 → c ≤ 9223372036854775807 := fun c hc => by rw [hc]; simpa [maxLen] using hg1
    go_enter Try.func25, Try.ntmps25
    go_wp2_with (at_builtin; refine wpList_append_zeros_nil rfl (.tmp 20) (.tmp 21) 37 3 rfl 5 .i64 i0 _ Try.underlying37 Try.underlying3 hi hz0 n h0 (by rw [hz2]; omega) (by omega) (by omega) rfl rfl ?_)
    go_ret
    refine ⟨some ⟨w.heap.size, 0, none⟩, grownCap w n 0 5, rfl, ⟨rfl, Nat.zero_le _, hg1, .inr ⟨w.heap.size, _, rfl, heap_alloc_new w.drew _, ?_, by simp [bvs]⟩⟩, ?_, ((Mod.refl none_ w).drew).alloc _⟩
    · simp only [Array.size_append, size_zeroCells, List.size_toArray, List.length_cons, List.length_nil]
      omega
    · intro a ha; cases ha; exact Nat.le_refl _

def pre2 (n1 n2 j : Nat) : Nat := if j = 0 then 0 else if j = 1 then n1 else n1 + n2
def cat2 (l1 l2 : List UInt8) (j : Nat) : List UInt8 := if j = 0 then [] else if j = 1 then l1 else l1 ++ l2
def CatRel (w : World) (n1 n2 : Nat) (l1 l2 : List UInt8) (j : Nat) (v : Value) (wr : World) : Prop :=
  ∃ A' c', v = .slice A' (pre2 n1 n2 j) c' ∧ OwB wr 5 A' (pre2 n1 n2 j) c' (cat2 l1 l2 j) ∧ Fresh w A' ∧ Mod none_ w wr
theorem CatRel.next {w wr w1 : World} {n1 n2 j k : Nat} {l1 l2 b : List UInt8} {A A' : Option Addr} {c' : Nat} (hF : Fresh w A) (hm : Mod none_ w wr)
    (hown : Ow w1 5 1 A' (pre2 n1 n2 j + k) c' (bvs (cat2 l1 l2 j) ++ bvs b)) (hmod : Mod (fp A) wr w1) (hA : A' = A ∨ A' = some ⟨wr.heap.size, 0, none⟩)
    (e1 : pre2 n1 n2 (j + 1) = pre2 n1 n2 j + k) (e2 : cat2 l1 l2 (j + 1) = cat2 l1 l2 j ++ b) : CatRel w n1 n2 l1 l2 (j + 1) (.slice A' (pre2 n1 n2 j + k) c') w1 := by
  refine ⟨A', c', by rw [e1], ?_, ?_, hm.then hmod fun i hi hf => ?_⟩
  · rw [e1, e2]
    show Ow _ _ _ _ _ _ (bvs _)
    rw [bvs_append]; exact hown
  · rintro a ha
    rcases hA with rfl | rfl
    · exact hF a ha
    · cases ha; exact hm.size
  · obtain ⟨a, ha, rfl⟩ := hf
    have := hF a ha
    omega

set_option maxHeartbeats 1000000 in
/-- Two texts of bytes, one behind the other. -/
theorem concat2_ok (w : World) (g : Nat) (B1 B2 : Option Addr) (n1 n2 d1 d2 : Nat) (l1 l2 : List UInt8) (hb : Rd w 1 (some ⟨g, 0, none⟩) 2 [.slice B1 n1 d1, .slice B2 n2 d2]) (h1 : RdB w B1 n1 l1) (h2 : RdB w B2 n2 l2) (hn : n1 + n2 ≤ 140737488355328) :
    Calls Try.prog 23 #[.slice (some ⟨g, 0, none⟩) 2 2] w fun e w' =>
    ∃ A' c', e = .returned (.slice A' (n1 + n2) c') ∧ OwB w' 5 A' (n1 + n2) c' (l1 ++ l2) ∧ Fresh w A' ∧ Mod none_ w w' := by
  obtain ⟨i0, hi, hz0, hz1, hz2⟩ := info_parts u8info
  obtain ⟨b, o, hbo, hc⟩ := hb.form (by omega) (by omega)
  cases hbo
  have c0 : w.cell? ⟨g, 0, none⟩ = some (.slice B1 n1 d1) := hc 0 _ rfl
  have c1 : w.cell? ⟨g, 1, none⟩ = some (.slice B2 n2 d2) := hc 1 _ rfl
  have H1 := Lib.hid h1
  have H2 := Lib.hid h2
  clear hb hc h1 h2
  go_enter Try.func23, Try.ntmps23
  go_wp2_with fail
  go_loop [3, 11] (fun s i => ∃ j : Nat, i = .int .i64 j ∧ s = .int .i64 (pre2 n1 n2 j : Nat) ∧ j ≤ 2) (fun _ i => 2 - (intOf i).toNat)
  case atStart => exact ⟨0, rfl, rfl, by omega⟩
  case round =>
    obtain ⟨j, rfl, rfl, hj⟩ := hrel
    by_cases j0 : j = 0
    · subst j0
      have e1 : pre2 n1 n2 0 = 0 := rfl
      go_wp2
      go_round
      case rel => exact ⟨1, rfl, by simp [pre2], by omega⟩
      case measure => simp [intOf]
    · by_cases j1 : j = 1
      · subst j1
        have e1 : pre2 n1 n2 1 = n1 := rfl
        go_wp2
        go_round
        case rel => exact ⟨2, rfl, by simp [pre2], by omega⟩
        case measure => simp [intOf]
      · obtain rfl : j = 2 := by omega
        have e1 : pre2 n1 n2 2 = n1 + n2 := rfl
        clear j0 j1 hj
        go_wp2_with fail
        have gr := grow_ok w (n1 + n2) hn
        rw [Int.natCast_add] at gr
        refine gr.mono ?_
        rintro e w1 ⟨A0, c0', rfl, ho0, hf0, hm0⟩
        have hr0 : CatRel w n1 n2 l1 l2 0 (.slice A0 0 c0') w1 := ⟨A0, c0', rfl, ho0, hf0, hm0⟩
        replace hr0 := Lib.hid hr0
        clear ho0 hf0 hm0 e1
        go_wp2_with fail
        go_loopw [6, 27] (fun v i wr => ∃ j : Nat, i = .int .i64 j ∧ CatRel w n1 n2 l1 l2 j v wr ∧ j ≤ 2) (fun _ i _ => 2 - (intOf i).toNat)
        case atStart => exact ⟨0, rfl, hr0.out, by omega⟩
        case round =>
          obtain ⟨j, rfl, ⟨A', c', rfl, hown, hF, hm⟩, hj⟩ := hrel
          have c0 := hm.cell_some c0 (fun hf => hf)
          have c1 := hm.cell_some c1 (fun hf => hf)
          replace hown := Lib.hid hown
          replace hF := Lib.hid hF
          replace hm := Lib.hid hm
          by_cases j0 : j = 0
          · subst j0
            go_wp2_with (at_builtin; refine wpList_append_ow rfl (.tmp 31) (.tmp 32) 37 rfl 5 i0 _ 1 1 Try.underlying37 hi hz0 hz1 hz2 rfl (by omega) A' _ c' (bvs (cat2 l1 l2 0)) rfl hown.out B1 n1 d1 (bvs l1) rfl (Rd.mod0 H1.out hm.out) (bvs_one l1) (by rw [show pre2 n1 n2 0 = 0 from rfl]; omega) (by rw [show pre2 n1 n2 0 = 0 from rfl]; omega) ?_; intro A1 c1' w1 hown1 hmod1 hA1)
            have hnext := CatRel.next (l2 := l2) (n2 := n2) hF.out hm.out hown1 hmod1 hA1 (by simp [pre2]) (by simp [cat2])
            replace hnext := Lib.hid hnext
            clear hown1 hmod1 hA1
            go_wp2
            go_roundw
            case rel => exact ⟨1, rfl, hnext.out, by omega⟩
            case measure => simp [intOf]
          · by_cases j1 : j = 1
            · subst j1
              go_wp2_with (at_builtin; refine wpList_append_ow rfl (.tmp 31) (.tmp 32) 37 rfl 5 i0 _ 1 1 Try.underlying37 hi hz0 hz1 hz2 rfl (by omega) A' _ c' (bvs (cat2 l1 l2 1)) rfl hown.out B2 n2 d2 (bvs l2) rfl (Rd.mod0 H2.out hm.out) (bvs_one l2) (by rw [show pre2 n1 n2 1 = n1 from rfl]; omega) (by rw [show pre2 n1 n2 1 = n1 from rfl]; omega) ?_; intro A1 c1' w1 hown1 hmod1 hA1)
              have hnext := CatRel.next hF.out hm.out hown1 hmod1 hA1 (by simp [pre2]) (by simp [cat2])
              replace hnext := Lib.hid hnext
              clear hown1 hmod1 hA1
              go_wp2
              go_roundw
              case rel => exact ⟨2, rfl, hnext.out, by omega⟩
              case measure => simp [intOf]
            · obtain rfl : j = 2 := by omega
              go_wp2
              go_ret
              exact ⟨A', c', rfl, hown.out, hF.out, hm.out⟩
end Go.Proofs.Ytnjgcdijpkbloaa
