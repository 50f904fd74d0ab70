import Derived.Test.YtdnbclhidpkpgaaGreatYp1
import Derived.Test.YtdnbclhidpkpgaaGreatYp3
import Derived.Lib.AppendStr
import Derived.Test.YtdnbclhidpkpgaaGreatYp4
import Derived.Test.YtdnbclhidpkpgaaGreatYp8
import Derived.Test.YtdnbclhidpkpgaaGreatYp17
/-
  append(b, s...) of a text onto bytes of the call's own. No condition.
-/
namespace Go.Proofs.YtdnbclhidpkpgaaGreat
set_option linter.unusedVariables false
set_option linter.unusedSimpArgs false
open Go.RowKit
theorem strCells_txt (l : List UInt8) : Lib.strCells (txt l) = bvs l := rfl
theorem run_append_txt {P : Program} (w : World) (t u ty e : TypeId) (i : TypeInfo) (ht : P.underlying t = some (.slice e)) (hu : P.underlying u = some .string) (hi : P.info? e = some i) (hz : i.zero = some (.int .u8 0))
    (hsize : i.size = 1) (hby : i.bytes = 1)
    (A : Option Addr) (n c : Nat) (xs : List Value) (hown : Ow w e 1 A n c xs) (l : List UInt8) (hb : n + l.length ≤ 140737488355328) :
    ∃ A' c' w', (Builtin.append_ #[t, u] ty #[.slice A n c, .string (txt l)]).run P w = .ok (.slice A' (n + l.length) c') w' ∧ Ow w' e 1 A' (n + l.length) c' (xs ++ bvs l) ∧ Mod (fp A) w w' ∧
      (A' = A ∨ A' = some ⟨w.heap.size, 0, none⟩) := by
  have hts := txt_size l
  have hlen : (xs ++ bvs l).length = (n + l.length) * 1 := by rw [List.length_append, hown.1, bvs_length]; omega
  have hmax : n + l.length ≤ maxLen := by simp only [maxLen]; omega
  obtain ⟨hx1, hnc, hcm, hcase⟩ := hown
  have grown : ∀ (old : Nat), old < n + l.length →
      Ow (w.drew.alloc (.cells (xs.toArray ++ (bvs l).toArray ++ Builtin.zeroCells (Value.int .u8 0).cells (grownCap w (n + l.length) old e - (n + l.length))) e)) e 1
        (some ⟨w.heap.size, 0, none⟩) (n + l.length) (grownCap w (n + l.length) old e) (xs ++ bvs l) ∧
      Mod (fp A) w (w.drew.alloc (.cells (xs.toArray ++ (bvs l).toArray ++ Builtin.zeroCells (Value.int .u8 0).cells (grownCap w (n + l.length) old e - (n + l.length))) e)) := by
    intro old ho
    have hge := grownCap_ge w (n + l.length) old e
    have hcm : grownCap w (n + l.length) old e ≤ maxLen := grownCap_le_maxLen w (n + l.length) old e hmax
    refine ⟨⟨hlen, hge, hcm, .inr ⟨w.heap.size, _, rfl, heap_alloc_new w.drew _, ?_, ?_⟩⟩, (Mod.refl _ w).drew.alloc _⟩
    · have hz1 : (Value.int IntKind.u8 0).cells.size = 1 := rfl
      simp only [Array.size_append, List.size_toArray, size_zeroCells, hz1, hx1, bvs_length]
      omega
    · simp only [Array.toList_append, List.append_assoc]
      rw [← List.append_assoc, ← hlen]
      exact List.take_left
  by_cases hm : l.length = 0
  · have hn : l = [] := List.eq_nil_of_length_eq_zero hm
    subst hn
    have hf := Lib.run_firstCells_string (P := P) w 1 (txt [])
    have hs0 : (txt []).size = 0 := rfl
    rw [hs0] at hf
    have hrun : (Builtin.append_ #[t, u] ty #[.slice A n c, .string (txt [])]).run P w = .ok (.slice A n c) w := by
      rcases hcase with ⟨rfl, rfl, rfl⟩ | ⟨g, cur, rfl, hb, h5, h6⟩
      · simp [Builtin.append_, run_underlying ht, run_underlying hu, sizeOf, typeInfo, hi, hsize, Builtin.lenOf, hs0, hf]
      · simp [Builtin.append_, run_underlying ht, run_underlying hu, sizeOf, typeInfo, hi, hsize, Builtin.lenOf, hs0, hf, hnc, storeCells, strCells_txt, bvs]
    refine ⟨A, c, w, by simpa using hrun, ?_, Mod.refl _ w, .inl rfl⟩
    simp only [List.length_nil, Nat.add_zero, bvs, List.map_nil, List.append_nil]
    exact ⟨hx1, hnc, hcm, hcase⟩
  · rcases hcase with ⟨rfl, rfl, rfl⟩ | ⟨g, cur, rfl, hb, h5, h6⟩
    · have hx : xs = [] := List.eq_nil_of_length_eq_zero (by simpa using hx1)
      subst hx
      have hr := run_append_nil_string (P := P) w t u ty e i (.int .u8 0) ht hu hi hz (txt l) (by omega) (by omega) (by rw [hby]; omega)
      have hgr := grown 0 (by omega)
      simp only [Nat.zero_add, List.nil_append, Array.empty_append] at hgr ⊢
      have e1 : ((txt l).data.map fun b => Value.int .u8 b.toNat) = (bvs l).toArray := by
        apply Array.ext'
        simp [bvs, txt, bv]
      rw [e1, hts] at hr
      exact ⟨_, _, _, hr, hgr.1, hgr.2, .inr rfl⟩
    · by_cases hroom : n + l.length ≤ c
      · have hr := Lib.run_append_room_string (P := P) w t u ty e i ht hu hi hsize g n c cur hb (txt l) (by omega) (by omega)
        rw [strCells_txt, hts] at hr
        refine ⟨_, _, _, hr, ⟨hlen, hroom, hcm, .inr ⟨g, _, rfl, setRow_heap w g cur _ e _ hb, ?_, ?_⟩⟩, ⟨rfl, rfl, rfl, by simp, fun k hk hf => setRow_other w g k _ (fun e => hf ⟨_, rfl, e.symm⟩)⟩, .inl rfl⟩
        · simp only [List.size_toArray, List.length_append, List.length_take, List.length_drop, Array.length_toList, bvs_length]
          omega
        · have ht' : cur.toList.take n = xs := by simpa using h6
          rw [ht', ← hlen]
          exact List.take_left
      · have holds : ∀ j u, xs[j]? = some u → w.cell? ((⟨g, 0, none⟩ : Addr).add j) = some u := by
          intro j u hu
          rw [add_lit, Blk.cell hb]
          rw [← h6, List.getElem?_take] at hu
          split at hu
          · simpa using hu
          · cases hu
        have hr := Lib.run_append_grow_string (P := P) w t u ty e i (.int .u8 0) ht hu hi hz ⟨g, 0, none⟩ n c xs (by rw [hsize]; exact hx1) holds (txt l) (by omega) (by omega) (by rw [hby]; exact growslice_fits (by omega) (by omega))
        rw [strCells_txt, hts] at hr
        have hgr := grown c (by omega)
        exact ⟨_, _, _, hr, hgr.1, hgr.2, .inr rfl⟩
theorem appT {w : World} {ops : Array Oper} {rest : List Oper} {o : Oper} {a : Act} {Q : Exit → Act → World → Prop} (hgd : o.guard = none) (s x : Operand)
    (ho : o.op = .call { callee := .builtin .append, args := #[s, x], argTypes := #[22, 9] })
    {A : Option Addr} {n c : Nat} {xs : List UInt8} (hs : a.eval s = .slice A n c) (hown : OwB w 5 A n c xs) {l : List UInt8} (hx : a.eval x = .string (txt l)) (hb : n + l.length ≤ 140737488355328)
    (h : ∀ A' c' w', OwB w' 5 A' (n + l.length) c' (xs ++ l) → Mod (fp A) w w' → (A' = A ∨ A' = some ⟨w.heap.size, 0, none⟩) → wpList Tryz.prog ops Q rest (a.put o.dst (.slice A' (n + l.length) c')) w') : wpList Tryz.prog ops Q (o :: rest) a w := by
  refine wpList_plain hgd fun K hK => ?_
  obtain ⟨i0, hi, hz0, hz1, hz2⟩ := info_parts u8info
  obtain ⟨A', c', w', hr, h2, h3, h4⟩ := run_append_txt (P := Tryz.prog) w 22 9 o.type 5 i0 Tryz.underlying22 Tryz.underlying9 hi hz0 hz1 hz2 A n c (bvs xs) hown l hb
  unfold Oper.wp execOp
  simp only [ho, resolve, invoke, builtin, Sem.run_bind, Sem.run_pure, Result.andThen_ok, List.map_toArray, List.map_cons, List.map_nil, hs, hx, hr]
  rw [← bvs_append] at h2
  exact hK _ _ (h A' c' w' h2 h3 h4)
end Go.Proofs.YtdnbclhidpkpgaaGreat
/-
  The reference's numbers' and texts' bytes. No condition.
-/
namespace Go.Proofs.YtdnbclhidpkpgaaGreat
set_option linter.unusedVariables false
set_option linter.unusedSimpArgs false
open Go.RowKit
set_option maxRecDepth 100000 in
set_option maxHeartbeats 1000000 in
theorem r2num_ok (w : World) (n : Int) (h1 : -9223372036854775808 ≤ n) (h2 : n ≤ 9223372036854775807) : Calls Tryz.prog 85 #[.int .i64 n] w (NumPost w n) := by
  have hz := zig_lt h1 h2
  obtain ⟨M, hM⟩ : ∃ M, M = zig n := ⟨_, rfl⟩
  rw [← hM] at hz
  by_cases hn : n < 0
  · have e2 : wrap64 (-1 - n) = -1 - n := IntWalk.wrap64_in _ ⟨by omega, by omega⟩
    have e1 : IntKind.u64.wrap (IntKind.u64.wrap (IntKind.u64.wrap (-1 - n) * 2) + 1) = (M : Int) := by
      rw [hM]; unfold zig; rw [if_neg (by omega), IntKind.wrap_u64, IntKind.wrap_u64, IntKind.wrap_u64]; omega
    have e3 : IntKind.u64.wrap (-1 - n) = -1 - n := by rw [IntKind.wrap_u64]; omega
    have e4 : IntKind.u64.wrap ((-1 - n) * 2) = (-1 - n) * 2 := by rw [IntKind.wrap_u64]; omega
    have e5 : IntKind.u64.wrap ((-1 - n) * 2 + 1) = (M : Int) := by rw [e3, e4] at e1; exact e1
    replace hM := Lib.hid hM
    go_enter Tryz.func85, Tryz.ntmps85
    go_wp2_with fail
    go_loopw [3, 4] (fun x v wr => ∃ q : Nat, x = .int .u64 q ∧ NumRel w M q v wr) (fun x _ _ => (intOf x).toNat)
    case atStart => exact ⟨M, by first | rfl | rw [e6], none, 0, 0, [], rfl, Ow.nil _ _ _, (fun _ h => by cases h), Mod.refl _ w, rfl, by unfold NumOk; simpa using hz, by omega⟩
    case round =>
      obtain ⟨q, rfl, A, t, c, pre, rfl, ho, hf, hm, hpre, hq, ht⟩ := hrel
      have hq64 : q < 18446744073709551616 := Nat.lt_of_lt_of_le hq (Nat.pow_le_pow_right (show 0 < 2 by omega) (show 64 - 7 * t ≤ 64 by omega))
      have r2 : IntKind.u64.wrap ((q : Int) / 128) = ((q / 128 : Nat) : Int) := by rw [IntKind.wrap_u64]; omega
      have r1 : ((q : Int) % 128 + 128) = (((q % 128 + 128 : Nat)) : Int) := by omega
      replace hq64 := Lib.hid hq64
      replace hz := Lib.hid hz
      replace ho := Lib.hid ho
      replace hf := Lib.hid hf
      replace hm := Lib.hid hm
      replace hpre := Lib.hid hpre
      replace r1 := Lib.hid r1
      by_cases hl : 128 ≤ q
      · obtain ⟨g1, g2, g3⟩ := num_step ht hq hl
        have hl2 : (128 : Int) ≤ (q : Int) := by omega
        replace hq := Lib.hid hq
        replace g2 := Lib.hid g2
        replace g3 := Lib.hid g3
        go_wp2_with (at_builtin; go_loud (refine app8 rfl (.tmp 17) (.tmp 22) rfl rfl (ho.out.mod0 ((Mod.refl none_ _).alloc _)) rfl (rdb_one _ _ (by_hi q)) (by omega) ?_; intro A' c' w' ho' hm' hA'; replace ho' := Lib.hid ho'; replace hm' := Lib.hid hm'; replace hA' := Lib.hid hA'))
        go_roundw
        case rel =>
          refine ⟨q / 128, by go_num, A', t + 1, c', pre ++ [by_ (q % 128 + 128)], rfl, ho'.out, Fresh.app hf.out (hm.out.alloc _).size hA'.out, (hm.out.alloc _).app hf.out hm'.out, ?_, g2.out, by omega⟩
          rw [← hpre.out, g3.out, List.append_assoc] <;> rfl
        case measure => simp only [intOf]; omega
      · have hv : Hid (pre ++ [by_ q] = vb M) := by
          have := hpre.out
          rw [vbF_last (by omega) (by omega)] at this
          exact Lib.hid this
        have hl2 : ¬ (128 : Int) ≤ (q : Int) := by omega
        go_wp2_with (at_builtin; go_loud (refine app8 rfl (.tmp 26) (.tmp 29) rfl rfl (ho.out.mod0 ((Mod.refl none_ _).alloc _)) rfl (rdb_one _ _ (by_lo (by omega))) (by omega) ?_; intro A' c' w' ho' hm' hA'; replace ho' := Lib.hid ho'; replace hm' := Lib.hid hm'; replace hA' := Lib.hid hA'))
        go_ret
        have h9 := ho'.out
        rw [hv.out, hM.out] at h9
        exact ⟨A', t + 1, c', rfl, h9, Fresh.app hf.out (hm.out.alloc _).size hA'.out, (hm.out.alloc _).app hf.out hm'.out, by omega⟩

  · have e1 : IntKind.u64.wrap (IntKind.u64.wrap n * 2) = (M : Int) := by
      rw [hM]; unfold zig; rw [if_pos (by omega), IntKind.wrap_u64, IntKind.wrap_u64]; omega
    have e6 : n * 2 = (M : Int) := by
      rw [hM]; unfold zig; rw [if_pos (by omega)]; omega
    replace hM := Lib.hid hM
    go_enter Tryz.func85, Tryz.ntmps85
    go_wp2_with fail
    go_loopw [3, 4] (fun x v wr => ∃ q : Nat, x = .int .u64 q ∧ NumRel w M q v wr) (fun x _ _ => (intOf x).toNat)
    case atStart => exact ⟨M, by first | rfl | rw [e6], none, 0, 0, [], rfl, Ow.nil _ _ _, (fun _ h => by cases h), Mod.refl _ w, rfl, by unfold NumOk; simpa using hz, by omega⟩
    case round =>
      obtain ⟨q, rfl, A, t, c, pre, rfl, ho, hf, hm, hpre, hq, ht⟩ := hrel
      have hq64 : q < 18446744073709551616 := Nat.lt_of_lt_of_le hq (Nat.pow_le_pow_right (show 0 < 2 by omega) (show 64 - 7 * t ≤ 64 by omega))
      have r2 : IntKind.u64.wrap ((q : Int) / 128) = ((q / 128 : Nat) : Int) := by rw [IntKind.wrap_u64]; omega
      have r1 : ((q : Int) % 128 + 128) = (((q % 128 + 128 : Nat)) : Int) := by omega
      replace hq64 := Lib.hid hq64
      replace hz := Lib.hid hz
      replace ho := Lib.hid ho
      replace hf := Lib.hid hf
      replace hm := Lib.hid hm
      replace hpre := Lib.hid hpre
      replace r1 := Lib.hid r1
      by_cases hl : 128 ≤ q
      · obtain ⟨g1, g2, g3⟩ := num_step ht hq hl
        have hl2 : (128 : Int) ≤ (q : Int) := by omega
        replace hq := Lib.hid hq
        replace g2 := Lib.hid g2
        replace g3 := Lib.hid g3
        go_wp2_with (at_builtin; go_loud (refine app8 rfl (.tmp 17) (.tmp 22) rfl rfl (ho.out.mod0 ((Mod.refl none_ _).alloc _)) rfl (rdb_one _ _ (by_hi q)) (by omega) ?_; intro A' c' w' ho' hm' hA'; replace ho' := Lib.hid ho'; replace hm' := Lib.hid hm'; replace hA' := Lib.hid hA'))
        go_roundw
        case rel =>
          refine ⟨q / 128, by go_num, A', t + 1, c', pre ++ [by_ (q % 128 + 128)], rfl, ho'.out, Fresh.app hf.out (hm.out.alloc _).size hA'.out, (hm.out.alloc _).app hf.out hm'.out, ?_, g2.out, by omega⟩
          rw [← hpre.out, g3.out, List.append_assoc] <;> rfl
        case measure => simp only [intOf]; omega
      · have hv : Hid (pre ++ [by_ q] = vb M) := by
          have := hpre.out
          rw [vbF_last (by omega) (by omega)] at this
          exact Lib.hid this
        have hl2 : ¬ (128 : Int) ≤ (q : Int) := by omega
        go_wp2_with (at_builtin; go_loud (refine app8 rfl (.tmp 26) (.tmp 29) rfl rfl (ho.out.mod0 ((Mod.refl none_ _).alloc _)) rfl (rdb_one _ _ (by_lo (by omega))) (by omega) ?_; intro A' c' w' ho' hm' hA'; replace ho' := Lib.hid ho'; replace hm' := Lib.hid hm'; replace hA' := Lib.hid hA'))
        go_ret
        have h9 := ho'.out
        rw [hv.out, hM.out] at h9
        exact ⟨A', t + 1, c', rfl, h9, Fresh.app hf.out (hm.out.alloc _).size hA'.out, (hm.out.alloc _).app hf.out hm'.out, by omega⟩

set_option maxRecDepth 100000 in
theorem r2text_ok (w : World) (s : List UInt8) (hs : s.length ≤ 1000000000000) : Calls Tryz.prog 55 #[.string (txt s)] w (BytesPost w (txtB s)) := by
  have hsz : (txt s).size = s.length := by simp [txt, ByteArray.size]
  go_enter Tryz.func55, Tryz.ntmps55
  go_wp2_with fail
  refine (r2num_ok _ (s.length : Int) (by omega) (by omega)).mono ?_
  rintro e w1 ⟨A, k, c, rfl, ho, hf, hm, hk⟩
  dsimp only
  replace ho := Lib.hid ho
  replace hf := Lib.hid hf
  replace hm := Lib.hid hm
  replace hsz := Lib.hid hsz
  go_wp2_with (at_builtin; go_loud (refine appT rfl (.tmp 5) (.tmp 6) rfl rfl ho.out rfl (by omega) ?_; intro A' c' w' ho' hm' hA'; replace ho' := Lib.hid ho'; replace hm' := Lib.hid hm'; replace hA' := Lib.hid hA'))
  go_ret
  have hl := ho'.out.len
  rw [List.length_append] at hl
  have el : (txtB s).length = k + s.length := by rw [txtB, List.length_append]; exact hl
  exact ⟨A', c', by rw [el] <;> rfl, by rw [el]; exact ho'.out, Fresh.app hf.out hm.out.size hA'.out, hm.out.app hf.out hm'.out⟩
end Go.Proofs.YtdnbclhidpkpgaaGreat
/-
  Fresh bytes that grow: what a chain of appends holds. No condition.
-/
namespace Go.Proofs.YtdnbclhidpkpgaaGreat
set_option linter.unusedVariables false
set_option linter.unusedSimpArgs false
open Go.RowKit
/-- fresh bytes, and how many at most -/
structure Acc (w1 w : World) (A : Option Addr) (n c : Nat) (l : List UInt8) (b : Nat) : Prop where
  ow : OwB w 5 A n c l
  fr : Fresh w1 A
  le : n ≤ b
theorem Acc.mod0 {w1 w w' : World} {A : Option Addr} {n c : Nat} {l : List UInt8} {b : Nat} (h : Acc w1 w A n c l b) (hm : Mod none_ w w') : Acc w1 w' A n c l b := ⟨h.ow.mod0 hm, h.fr, h.le⟩
theorem Acc.len {w1 w : World} {A : Option Addr} {n c : Nat} {l : List UInt8} {b : Nat} (h : Acc w1 w A n c l b) : l.length = n := (h.ow : OwB _ _ _ _ _ _).len
/-- what a call for bytes answers -/
def AccPost (w1 w : World) (l : List UInt8) (b : Nat) (e : Ending) (w' : World) : Prop := ∃ A n c, e = .returned (.slice A n c) ∧ Acc w1 w' A n c l b ∧ Mod none_ w w' ∧ Mod none_ w1 w'
theorem acc_call {f : FuncId} {args : Array Value} {w1 w : World} {l : List UInt8} (b : Nat) (h : Calls Tryz.prog f args w (BytesPost w l)) (hM : Mod none_ w1 w) (hb : l.length ≤ b) : Calls Tryz.prog f args w (AccPost w1 w l b) :=
  h.mono (by
    rintro e w' ⟨A, c, rfl, ho, hf, hm⟩
    exact ⟨A, _, c, rfl, ⟨ho, fun a ha => Nat.le_trans hM.size (hf a ha), hb⟩, hm, hM.trans hm⟩)
theorem step_acc {w1 w : World} {ops : Array Oper} {o : Oper} {a : Act} {K : Act → World → Prop} {Q : Exit → Act → World → Prop} {E : Prop} (hgd : o.guard = none) (s x : Operand)
    (ho : o.op = .call { callee := .builtin .append, args := #[s, x], argTypes := #[22, 22] })
    (hM : Mod none_ w1 w) {A : Option Addr} {n c b : Nat} {xs : List UInt8} (hs : a.eval s = .slice A n c) (h1 : Acc w1 w A n c xs b)
    {S : Option Addr} {m d k : Nat} {ys : List UInt8} (hx : a.eval x = .slice S m d) (h2 : Acc w1 w S m d ys k) (hb : b + k ≤ 100000000)
    (h : ∀ A' n' c' w', Acc w1 w' A' n' c' (xs ++ ys) (b + k) → Mod none_ w1 w' → Mod (fp A) w w' → (A' = A ∨ A' = some ⟨w.heap.size, 0, none⟩) → K (a.put o.dst (.slice A' n' c')) w') : if Region.wanted o (yielded ops a.tmps) = true then Oper.wp Tryz.prog o a w K Q else E := by
  obtain ⟨i0, hi, hz0, hz1, hz2⟩ := info_parts u8info
  have e1 := h1.le
  have e2 := h2.le
  refine step_append_ow hgd s x 22 ho 5 i0 _ 1 1 Tryz.underlying22 hi hz0 hz1 hz2 rfl (by omega) A n c (bvs xs) hs h1.ow S m d (bvs ys) hx h2.ow.rd (bvs_one _) (by omega) (by omega) ?_
  intro A' c' w' h3 hm hA
  rw [← bvs_append] at h3
  exact h A' (n + m) c' w' ⟨h3, Fresh.app h1.fr hM.size hA, by omega⟩ (hM.app h1.fr hm) hm hA
theorem app_acc {w1 w : World} {ops : Array Oper} {rest : List Oper} {o : Oper} {a : Act} {Q : Exit → Act → World → Prop} (hgd : o.guard = none) (s x : Operand)
    (ho : o.op = .call { callee := .builtin .append, args := #[s, x], argTypes := #[22, 22] })
    (hM : Mod none_ w1 w) {A : Option Addr} {n c b : Nat} {xs : List UInt8} (hs : a.eval s = .slice A n c) (h1 : Acc w1 w A n c xs b)
    {S : Option Addr} {m d k : Nat} {ys : List UInt8} (hx : a.eval x = .slice S m d) (h2 : Acc w1 w S m d ys k) (hb : b + k ≤ 100000000)
    (h : ∀ A' n' c' w', Acc w1 w' A' n' c' (xs ++ ys) (b + k) → Mod none_ w1 w' → Mod (fp A) w w' → wpList Tryz.prog ops Q rest (a.put o.dst (.slice A' n' c')) w') : wpList Tryz.prog ops Q (o :: rest) a w := by
  have e1 := h1.le
  have e2 := h2.le
  refine app8 hgd s x ho hs h1.ow hx h2.ow.rd (by omega) ?_
  intro A' c' w' h3 hm hA
  exact h A' (n + m) c' w' ⟨h3, Fresh.app h1.fr hM.size hA, by omega⟩ (hM.app h1.fr hm) hm
theorem Acc.nil (w1 w : World) : Acc w1 w none 0 0 [] 0 := ⟨Ow.nil _ _ _, (fun _ h => by cases h), Nat.le_refl _⟩
theorem r2numB_ok (w : World) (n : Int) (h : in64 n) : Calls Tryz.prog 85 #[.int .i64 n] w (BytesPost w (nb n)) :=
  (r2num_ok w n h.1 h.2).mono (by
    rintro e w' ⟨A, k, c, rfl, ho, hf, hm, hk⟩
    have hl := ho.len
    subst hl
    exact ⟨A, c, rfl, ho, hf, hm⟩)
theorem r6num_ok (w : World) (n : Int) (h : in64 n) : Calls Tryz.prog 86 #[.int .i64 n] w (BytesPost w (nb n)) := by
  go_enter Tryz.func86, Tryz.ntmps86
  go_wp2_with fail
  refine (r2numB_ok _ _ h).mono ?_
  rintro e w1 ⟨A, c, rfl, ho, hf, hm⟩
  dsimp only
  replace ho := Lib.hid ho
  replace hf := Lib.hid hf
  replace hm := Lib.hid hm
  go_wp2_with fail
  go_ret
  exact ⟨A, c, rfl, ho.out, hf.out, hm.out⟩
theorem r15num_ok (w : World) (n : Int) (h : in64 n) : Calls Tryz.prog 53 #[.int .i64 n] w (BytesPost w (nb n)) := by
  go_enter Tryz.func53, Tryz.ntmps53
  go_wp2_with fail
  refine (r2numB_ok _ _ h).mono ?_
  rintro e w1 ⟨A, c, rfl, ho, hf, hm⟩
  dsimp only
  replace ho := Lib.hid ho
  replace hf := Lib.hid hf
  replace hm := Lib.hid hm
  go_wp2_with fail
  go_ret
  exact ⟨A, c, rfl, ho.out, hf.out, hm.out⟩
end Go.Proofs.YtdnbclhidpkpgaaGreat
