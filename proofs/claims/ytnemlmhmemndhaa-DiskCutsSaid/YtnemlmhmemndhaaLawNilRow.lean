/-
  DiskNil: for every step the law returns true, and the step reads as it did. No condition.
-/
import Derived.Test.YtnemlmhmemndhaaLawNil
import Derived.Test.YtnemlmhmemndhaaOpen
import Derived.ShutString
namespace Go.Proofs.Ytnemlmhmemndhaa
set_option linter.unusedVariables false
open Go.ChangeShapes Go.WideShapes Go.ChangeAt Go.RowKit Go.Deep

theorem own : ownKnob Try.prog.godebug = none := by kernel_rfl
theorem laidOut : laidOutB Try.prog = true := by kernel_rfl

theorem op_one : oneCellFields Try.prog ((Try.prog.underlying 30).elim #[] fun d => match d with | .struct fs => fs | _ => #[]) = true := by kernel_rfl

/-- A step that came in. -/
theorem open_op {H : Type} {enc : TypeId × Value → H} {w : World} {held : Bool} {fuel : Nat} {cs : List Value} {x : DataW H × List MemPlace}
    (h : DataW.trod enc Try.prog w 0 (fun _ => true) held fuel 30 cs = some x) (hw : Wd Try.prog 30 x.1) :
    ∃ (o : OpM) (B T Y : SV), cs = (opCells o B T Y).toList ∧ OpAt w w.heap.size B T Y o := by
  obtain ⟨hlen, hf⟩ := open_fields Try.underlying30 (by kernel_rfl) (by kernel_rfl) h hw
  obtain ⟨v0, m0, y0, e0, t0, _⟩ := hf 0 _ rfl
  obtain ⟨v1, m1, y1, e1, t1, _⟩ := hf 1 _ rfl
  obtain ⟨v2, m2, y2, e2, t2, w2⟩ := hf 2 _ rfl
  obtain ⟨v3, m3, y3, e3, t3, w3⟩ := hf 3 _ rfl
  obtain ⟨v4, m4, y4, e4, t4, w4⟩ := hf 4 _ rfl
  obtain ⟨k, hk, _⟩ := DataW.trod_int Try.underlying3 t0
  obtain ⟨n, hn, _⟩ := DataW.trod_int Try.underlying3 t1
  obtain ⟨Ba, Bn, Bc, bl, hb, cb⟩ := open_bytes Try.underlying27 Try.underlying5 (by kernel_rfl) t2 w2
  obtain ⟨Ta, Tn, Tc, tl, ht, ct, _⟩ := open_nums Try.underlying28 Try.underlying3 (by kernel_rfl) t3 w3
  obtain ⟨Ya, Yn, Yc, yl, hy, cy⟩ := open_bytes Try.underlying27 Try.underlying5 (by kernel_rfl) t4 w4
  have b1 : Try.prog.bytesOf 5 = 1 := by kernel_rfl
  have b8 : Try.prog.bytesOf 3 = 8 := by kernel_rfl
  rw [b1] at cb cy
  rw [b8] at ct
  simp only [List.cons.injEq, and_true] at hk hn hb ht hy
  subst hk hn hb ht hy
  have hl5 : cs.length = 5 := hlen
  refine ⟨⟨k, n, bl, tl, yl⟩, ⟨Ba, Bn, Bc⟩, ⟨Ta, Tn, Tc⟩, ⟨Ya, Yn, Yc⟩, ?_, ⟨cb.1, ct.1, cy.1, cb.2.2.2.2, ct.2.2.2.2, cy.2.2.2.2, ⟨cb.2.1, ?_⟩, ⟨ct.2.1, ?_⟩, ⟨cy.2.1, ?_⟩⟩⟩
  · match cs, hl5 with
    | [a, b, c, d, e], _ =>
      simp at e0 e1 e2 e3 e4
      subst e0 e1 e2 e3 e4
      rfl
  · have := cb.2.2.2.1; simpa using this
  · have := ct.2.2.2.1; simp only; omega
  · have := cy.2.2.2.1; simpa using this

namespace lawNil
set_option maxRecDepth 100000 in
theorem lifted (os : Os) (started : os.Started) (H : Type) (enc : TypeId × Value → H) :
    ReturnsInHanded {} Try.checked os 5 .any (Rows.diskNilSpec.pre6 enc Try.prog Try.f5 Rows.diskNilRow.domain false) (Rows.diskNilSpec.post enc Try.prog Try.f5 false true false false) := by
  refine returnsInHanded_of_change_sized (C := Try.checked) own started (by kernel_rfl) Try.func5
    (ChangeSpec.witness6 (enc := enc) (C := Try.checked) false ⟨#[], #[.agg #[.int .i64 0, .int .i64 0, .slice none 0 0, .slice none 0 0, .slice none 0 0]], []⟩ 8 (by kernel_rfl) (by kernel_rfl) (by kernel_rfl) (by kernel_rfl)) ?_
  intro W base args ds gs before hval0 hW hcnd hsz _
  have hval : ∀ (j : Nat) t v, Try.f5.params[j]? = some t → args[j]? = some v → Value.okWide Try.prog W .any base t v := hval0
  have hW' := hW
  obtain ⟨p, q, hA0, hV, rfl, hfz, hnd⟩ := hW
  have hA : DataW.TrodAll enc Try.prog W 0 (fun _ => true) true Try.f5.params.toList args.toList ds p := hA0
  rw [Try.params5] at hA hval
  obtain ⟨v0, vs0, d0, ds0, p0, q0, hargs, rfl, rfl, h0, r0⟩ := trodAll_cons hA
  obtain ⟨rfl, rfl, rfl⟩ := trodAll_nil r0
  obtain rfl : args = #[v0] := by cases args; simp_all
  obtain ⟨rfl, rfl⟩ := trodVars_none hV
  have k0 := h0
  have lt0 : ∀ x ∈ p0, x.block < W.heap.size := by obtain ⟨m, hm⟩ := k0; exact DataW.trod_lt m _ _ _ hm
  have w0 : Wd Try.prog 30 d0 := wd_arg hsz (j := 0) rfl rfl
  obtain ⟨fuel0, f0⟩ := h0
  obtain ⟨o, B, T, Y, ho, hat⟩ := open_op f0 w0
  obtain ⟨cs0, rfl, _⟩ := okWide_struct Try.underlying30 (hval 0 30 v0 rfl rfl)
  obtain rfl : cs0 = opCells o B T Y := by
    have e : cs0.toList = (opCells o B T Y).toList := by simpa [Value.cells] using ho
    exact Array.toList_inj.1 e
  clear hA0 hval0
  refine (nil_walk W W.heap.size B T Y o hat).mono fun e W' ⟨he, bel⟩ => ?_
  subst he
  exact ⟨_, rfl, _, _, _, [], _, [], hW', trodAll_mk1 (shut_bool Try.underlying4 _), (trodAll_cons_mk (Below.trod laidOut (by kernel_rfl) (of_decide_eq_true (by kernel_rfl)) k0 bel lt0) trodAll_mk0), rfl, bel.frame _, fun h => by cases h⟩

theorem over : Rows.diskNilRow.holds Try.pinned (OpenSpec.ofChange Rows.diskNilSpec) :=
  OpenClaim.holds_of_wide 5 Try.f5 rfl rfl rfl rfl rfl rfl rfl ⟨rfl, rfl, rfl, rfl, rfl⟩ rfl rfl rfl rfl rfl (by kernel_rfl) Try.func5 (by kernel_rfl)
    (of_decide_eq_true (by kernel_rfl)) (by unfold Func.isWrapper; first | (rw [if_pos (by decide +kernel)]; kernel_rfl) | (rw [if_neg (by decide +kernel)]; exact ⟨rfl, rfl⟩))
    (fun os started H enc _ => lifted os started H enc)

theorem proved : Rows.DiskNilSaid := over
end lawNil
end Go.Proofs.Ytnemlmhmemndhaa
