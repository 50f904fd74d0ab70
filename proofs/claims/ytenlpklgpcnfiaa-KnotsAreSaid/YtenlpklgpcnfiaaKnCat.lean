/-
  slices.Concat of lists of numbers; knots.Order.
-/
import Derived.Test.YtenlpklgpcnfiaaKnWhP
import Derived.Test.YtenlpklgpcnfiaaKnW
import Derived.Test.YtenlpklgpcnfiaaConcatG
import Derived.Test.YtenlpklgpcnfiaaKnRe
namespace Go.Proofs.Ytenlpklgpcnfiaa
set_option linter.unusedVariables false
open Go.RowKit
theorem len_flat : ∀ {ks : List (List Nat)}, (∀ K ∈ ks, K ≠ []) → ks.length ≤ ks.flatten.length
  | [], _ => Nat.le_refl _
  | K :: ks, h => by
    have ih := len_flat (ks := ks) fun K2 h2 => h K2 (List.mem_cons_of_mem _ h2)
    have h1 : 0 < K.length := List.length_pos_iff.2 (h K (by simp))
    rw [List.flatten_cons, List.length_append, List.length_cons]
    omega
theorem take_flat {ks : List (List Nat)} {j : Nat} {K : List Nat} (h : ks[j]? = some K) : (ks.take (j + 1)).flatten = (ks.take j).flatten ++ K := by
  have hj : j < ks.length := by
    rcases Nat.lt_or_ge j ks.length with h1 | h1
    · exact h1
    · rw [List.getElem?_eq_none h1] at h; cases h
  rw [List.getElem?_eq_getElem hj] at h
  injection h with h
  rw [List.take_succ_eq_append_getElem hj, List.flatten_append, h]
  simp
theorem take_flat_le (ks : List (List Nat)) (i : Nat) : (ks.take i).flatten.length ≤ ks.flatten.length := by
  have h := congrArg (fun l : List (List Nat) => l.flatten.length) (List.take_append_drop i ks)
  simp only [List.flatten_append, List.length_append] at h
  omega
/-- a knot's row -/
theorem ow_knot {w : World} {H : Option Addr} {r c : Nat} {ss : List SV} {ks : List (List Nat)} (h : OwG w H r c ss (ks.map zs)) {j : Nat} (hj : j < r) : ∃ b o B cc K, H = some ⟨b, o, none⟩ ∧ w.cell? ⟨b, o + j, none⟩ = some (.slice B K.length cc) ∧ ks[j]? = some K ∧ RdI w B K.length (zs K) := by
  obtain ⟨b, o, B, kk, cc, l, hH, hc, hl, hr, _, _⟩ := h.rd.get hj
  rw [List.getElem?_map] at hl
  cases hk : ks[j]? with
  | none => rw [hk] at hl; cases hl
  | some K =>
    rw [hk] at hl
    cases hl
    have := hr.len
    rw [zs_len] at this
    subst this
    exact ⟨b, o, B, cc, K, hH, hc, rfl, hr⟩
def preN (lls : List (List Int)) (j : Nat) : Nat := (lls.take j).flatten.length
theorem pre_succ {lls : List (List Int)} {j : Nat} {l : List Int} (h : lls[j]? = some l) : (lls.take (j + 1)).flatten = (lls.take j).flatten ++ l ∧ preN lls (j + 1) = preN lls j + l.length := by
  have hj : j < lls.length := by
    rcases Nat.lt_or_ge j lls.length with hh | hh
    · exact hh
    · rw [List.getElem?_eq_none hh] at h; cases h
  rw [List.getElem?_eq_getElem hj] at h
  injection h with h
  have e : (lls.take (j + 1)).flatten = (lls.take j).flatten ++ l := by
    rw [List.take_succ_eq_append_getElem hj, List.flatten_append, h]; simp
  exact ⟨e, by unfold preN; rw [e, List.length_append]⟩
def SameWZ (w wr : World) : Prop := w = wr
set_option maxRecDepth 100000 in
theorem growZ_ok (w : World) (n : Nat) (hn : n ≤ 1000000000) : Calls Try.prog 27 #[.slice none 0 0, .int .i64 (n : Int)] w fun e w' =>
    ∃ A' c', e = .returned (.slice A' 0 c') ∧ OwZ w' A' 0 c' [] ∧ Fresh w A' ∧ Mod none_ w w' := by
  obtain ⟨i0, hi, hz0, hz1, hz2⟩ := info_parts intinfo
  rcases Nat.eq_zero_or_pos n with h0 | h0
  · subst h0
    go_enter Try.func27, Try.ntmps27
    go_wp2
    go_ret
    exact ⟨none, 0, rfl, Ow.nil _ _ _, (fun _ h => by cases h), Mod.refl _ _⟩
  · have hg1 := grownCap_le_maxLen w n 0 3 (by simp only [maxLen]; omega)
    have hg0 := grownCap_ge w n 0 3
    have hcl : ∀ c, c = grownCap w n 0 3 → c ≤ 9223372036854775807 := fun c hc => by rw [hc]; simpa [maxLen] using hg1
    go_enter Try.func27, Try.ntmps27
    go_wp2_with (at_builtin; refine wpList_append_zeros_nil rfl (.tmp 20) (.tmp 21) 28 3 rfl 3 .i64 i0 _ Try.underlying28 Try.underlying3 hi hz0 n h0 (by rw [hz2]; omega) (by omega) (by omega) rfl rfl ?_)
    go_ret
    refine ⟨some ⟨w.heap.size, 0, none⟩, grownCap w n 0 3, rfl, ⟨rfl, Nat.zero_le _, hg1, .inr ⟨w.heap.size, _, rfl, heap_alloc_new w.drew _, ?_, by simp [ivs]⟩⟩, ?_, ((Mod.refl none_ w).drew).alloc _⟩
    · simp only [Array.size_append, size_zeroCells]
      simp only [List.size_toArray, List.length_cons, List.length_nil]
      omega
    · intro a ha; cases ha; exact Nat.le_refl _
set_option maxRecDepth 100000 in
set_option maxHeartbeats 2000000 in
theorem concatZ_ok (w : World) (G : Option Addr) (m d : Nat) (ss : List SV) (lls : List (List Int)) (h : RdG w G m ss lls) (hb1 : ∀ l ∈ lls, l.length ≤ 1000) (hm1 : m ≤ 1000) :
    Calls Try.prog 23 #[.slice G m d] w fun e w' =>
    ∃ A' c', e = .returned (.slice A' lls.flatten.length c') ∧ OwZ w' A' lls.flatten.length c' lls.flatten ∧ Fresh w A' ∧ Mod none_ w w' := by
  have hl := h.len
  have hb : ∀ j, j ≤ m → preN lls j ≤ j * 1000 := by
    intro j
    induction j with
    | zero => intro _; unfold preN; simp
    | succ j ih =>
      intro hj
      have := ih (by omega)
      obtain ⟨b, o, A, n, c, l, _, _, hl2, hr, _, _⟩ := h.get (show j < m by omega)
      have hn := hb1 l (List.mem_of_getElem? hl2)
      have h2 := (pre_succ hl2).2
      have h3 := hr.len
      omega
  have hfull : lls.take m = lls := List.take_of_length_le (by omega)
  have hpm : preN lls m = lls.flatten.length := by unfold preN; rw [hfull]
  have hbm := hb m (by omega)
  have gr := Lib.hid (fun W => growZ_ok W (preN lls m) (by omega))
  replace h := Lib.hid h
  replace hfull := Lib.hid hfull
  replace hb := Lib.hid hb
  replace hpm := Lib.hid hpm
  go_enter Try.func23, Try.ntmps23
  go_wp2_with fail
  go_loopw [3, 11] (fun s x wr => ∃ j : Nat, x = .int .i64 j ∧ s = .int .i64 (preN lls j : Nat) ∧ j ≤ m ∧ SameWZ w wr) (fun _ x _ => m - (intOf x).toNat)
  case atStart => exact ⟨0, rfl, by unfold preN; simp, by omega, rfl⟩
  case round =>
    obtain ⟨j, rfl, rfl, hj, hw⟩ := hrel
    cases hw
    by_cases hlt : j < m
    · obtain ⟨b, o, A, n, c, l, rfl, hc, hl2, hr, hcc, _⟩ := h.out.get hlt
      have hn := hb1 l (List.mem_of_getElem? hl2)
      rw [hr.len] at hn
      have h2 := (pre_succ hl2).2
      have h3 := hr.len
      have h4 := hb.out j hj
      have h5 : j * 1000 ≤ 1000000 := by omega
      rw [h3] at h2
      generalize preN lls j = pj at *
      have h6 : wrap64 ((pj : Int) + (n : Int)) = ((pj + n : Nat) : Int) := by unfold wrap64; omega
      replace hl2 := Lib.hid hl2
      replace hr := Lib.hid hr
      replace h2 := Lib.hid h2
      replace h3 := Lib.hid h3
      go_wp2_with fail
      go_roundw
      case rel => exact ⟨j + 1, by go_num, by rw [h2.out]; simp, by omega, rfl⟩
      case measure => simp [intOf]; omega
    · have hjm : j = m := by omega
      subst hjm
      go_wp2_with fail
      refine (gr.out _).mono ?_
      rintro e w1 ⟨A0, c0, rfl, ho0, hf0, hm0⟩
      dsimp only
      replace ho0 := Lib.hid ho0
      replace hf0 := Lib.hid hf0
      replace hm0 := Lib.hid hm0
      go_wp2_with fail
      go_loopw [6, 27] (fun v x wr => ∃ i : Nat, x = .int .i64 i ∧ i ≤ j ∧ ∃ A' c', v = .slice A' (preN lls i) c' ∧ OwZ wr A' (preN lls i) c' (lls.take i).flatten ∧ Fresh w A' ∧ Mod none_ w wr) (fun _ x _ => j - (intOf x).toNat)
      case atStart =>
        refine ⟨0, rfl, by omega, A0, c0, ?_, ?_, hf0.out, hm0.out⟩
        · unfold preN; simp
        · have := ho0.out; unfold preN; simpa using this
      case round =>
        obtain ⟨i, rfl, hi, A', c', rfl, how, hf, hm⟩ := hrel
        by_cases hlt2 : i < j
        · obtain ⟨b, o, A, n, c, l, rfl, hc, hl2, hr, hcc, _⟩ := (h.out.mod0 hm).get hlt2
          have hn := hb1 l (List.mem_of_getElem? hl2)
          rw [hr.len] at hn
          obtain ⟨e1, e2⟩ := pre_succ hl2
          have h3 := hr.len
          have h4 := hb.out i hi
          have h5 : i * 1000 ≤ 1000000 := by omega
          rw [h3] at e2
          generalize preN lls i = pj at *
          replace how := Lib.hid how
          replace hf := Lib.hid hf
          replace hm := Lib.hid hm
          replace hl2 := Lib.hid hl2
          replace hr := Lib.hid hr
          replace e1 := Lib.hid e1
          replace e2 := Lib.hid e2
          replace h3 := Lib.hid h3
          go_wp2_with (at_builtin; go_loud (refine appZ rfl (.tmp 31) (.tmp 32) rfl rfl how.out rfl hr.out (by omega) ?_; intro A2 c2 w2 ho2 hm2 hA2; replace ho2 := Lib.hid ho2; replace hm2 := Lib.hid hm2; replace hA2 := Lib.hid hA2))
          go_roundw
          case rel =>
            refine ⟨i + 1, by go_num, by omega, A2, c2, by rw [e2.out], ?_, Fresh.app hf.out hm.out.size hA2.out, hm.out.app hf.out hm2.out⟩
            rw [e2.out, e1.out]; exact ho2.out
          case measure => simp [intOf]; omega
        · have hij : i = j := by omega
          subst hij
          rw [hfull.out] at how
          rw [hpm.out] at how ⊢
          replace how := Lib.hid how
          replace hf := Lib.hid hf
          replace hm := Lib.hid hm
          go_wp2_with fail
          go_ret
          exact ⟨A', c', rfl, how.out, hf.out, hm.out⟩
theorem zs_flat (ks : List (List Nat)) : (ks.map zs).flatten = zs ks.flatten := by
  induction ks with
  | nil => rfl
  | cons k ks ih => rw [List.map_cons, List.flatten_cons, ih, List.flatten_cons, zs_app]
theorem knot_le {g : List (List Int)} {ks : List (List Nat)} (h : KSeq g (fun _ => False) ks) : ks.length ≤ g.length ∧ ∀ K ∈ ks, K.length ≤ g.length := by
  have hF := knots_facts h
  have hfl := flat_len hF
  refine ⟨?_, fun K hK => ?_⟩
  · rw [← hfl]
    exact len_flat fun K hK => by obtain ⟨j, hj, e⟩ := List.getElem_of_mem hK; exact (row_sorted hF (by rw [List.getElem?_eq_getElem hj, e])).2
  · rw [← hfl]
    exact (List.sublist_flatten_of_mem hK).length_le
def OrderPost (g : List (List Int)) (w : World) (e : Ending) (w' : World) : Prop := ∃ ks : List (List Nat), KSeq g (fun _ => False) ks ∧ ReachPost ks.flatten w e w'
set_option maxRecDepth 100000 in
set_option maxHeartbeats 2000000 in
theorem order_ok (w : World) (A : Option Addr) (n c : Nat) (ss : List SV) (g : List (List Int)) (hg : RdG w A n ss g) (hn : n ≤ 1000) :
    Calls Try.prog 19 #[.slice A n c] w (OrderPost g w) := by
  have hgl := hg.len
  have kK := Lib.hid (knots_ok w A n c ss g hg (by omega))
  replace hg := Lib.hid hg
  go_enter Try.func19, Try.ntmps19
  go_wp2_with fail
  with_reducible refine kK.out.mono ?_
  rintro e w1 ⟨ks, hseq, G, d, ts, rfl, hO, _, hm1⟩
  dsimp only
  obtain ⟨h1, h2⟩ := knot_le hseq
  have kC := Lib.hid (concatZ_ok w1 G ks.length d ts (ks.map zs) hO.rd (fun l hl => by obtain ⟨K, hK, rfl⟩ := List.mem_map.1 hl; rw [zs_len]; have := h2 K hK; omega) (by omega))
  replace hO := Lib.hid hO
  replace hm1 := Lib.hid hm1
  replace hseq := Lib.hid hseq
  replace h1 := Lib.hid h1
  replace h2 := Lib.hid h2
  go_wp2_with fail
  with_reducible refine kC.out.mono ?_
  rintro e w2 ⟨B, c2, rfl, ho, hf, hm2⟩
  dsimp only
  rw [zs_flat, zs_len] at ho
  rw [zs_flat, zs_len]
  replace ho := Lib.hid ho
  replace hf := Lib.hid hf
  replace hm2 := Lib.hid hm2
  go_wp2_with fail
  go_ret
  exact ⟨ks, hseq.out, B, c2, rfl, ho.out, Fresh.later hf.out hm1.out.size, hm1.out.trans hm2.out⟩
end Go.Proofs.Ytenlpklgpcnfiaa
