import Derived.Test.YtdnbclhidpkpgaaGreatLp14
/-
  LogLast's walk. No condition.
-/
namespace Go.Proofs.YtdnbclhidpkpgaaGreat
set_option linter.unusedVariables false
set_option linter.unusedSimpArgs false
open Go.RowKit
theorem lastOf_mem {xs : List Rs} {i : Is} {y : Rs} (h : lastOf xs i = some y) : y ∈ xs ∧ y.r.i = i := by
  unfold lastOf at h
  exact ⟨List.mem_reverse.1 (List.mem_of_find?_eq_some h), by simpa using List.find?_some h⟩
theorem isLt_ne {a b : Is} (h : isLt a b = true) : a ≠ b := by
  rintro rfl
  unfold isLt at h
  simp only [decide_eq_true_eq] at h
  omega
theorem isLt_asym {a b : Is} (h : isLt a b = true) : isLt b a = false := by
  unfold isLt at *
  simp only [decide_eq_true_eq, decide_eq_false_iff_not] at *
  omega
theorem len_le_of_sub : ∀ (ys xs : List Rs), (ys.Pairwise fun a b => a.r.i ≠ b.r.i) → (∀ y ∈ ys, y ∈ xs) → ys.length ≤ xs.length
  | [], _, _, _ => Nat.zero_le _
  | y :: ys, xs, h, hs => by
    obtain ⟨s, t, rfl⟩ := List.append_of_mem (hs y List.mem_cons_self)
    rw [List.pairwise_cons] at h
    have := len_le_of_sub ys (s ++ t) h.2 (fun z hz => by
      have h1 := hs z (List.mem_cons_of_mem _ hz)
      rw [List.mem_append, List.mem_cons] at h1
      rw [List.mem_append]
      rcases h1 with h1 | rfl | h1
      · exact .inl h1
      · exact absurd rfl (h.1 z hz)
      · exact .inr h1)
    rw [List.length_append] at this
    rw [List.length_append, List.length_cons, List.length_cons]
    omega
theorem eq_of_sorted : ∀ (ys zs : List Rs), (ys.Pairwise fun a b => isLt a.r.i b.r.i = true) → (zs.Pairwise fun a b => isLt a.r.i b.r.i = true) → (∀ x, x ∈ ys ↔ x ∈ zs) → ys = zs
  | [], [], _, _, _ => rfl
  | [], z :: zs, _, _, h => absurd ((h z).2 List.mem_cons_self) List.not_mem_nil
  | y :: ys, [], _, _, h => absurd ((h y).1 List.mem_cons_self) List.not_mem_nil
  | y :: ys, z :: zs, hy, hz, h => by
    rw [List.pairwise_cons] at hy hz
    have h1 := (h y).1 List.mem_cons_self
    have h2 := (h z).2 List.mem_cons_self
    have hyz : y = z := by
      rcases List.mem_cons.1 h1 with h1 | h1
      · exact h1
      · rcases List.mem_cons.1 h2 with h2 | h2
        · exact h2.symm
        · have a1 := hz.1 y h1
          have a2 := isLt_asym (hy.1 z h2)
          rw [a1] at a2
          cases a2
    subst hyz
    rw [eq_of_sorted ys zs hy.2 hz.2 (fun x => ⟨fun hx => by
      rcases List.mem_cons.1 ((h x).1 (List.mem_cons_of_mem _ hx)) with rfl | h3
      · exact absurd rfl (isLt_ne (hy.1 x hx))
      · exact h3, fun hx => by
      rcases List.mem_cons.1 ((h x).2 (List.mem_cons_of_mem _ hx)) with rfl | h3
      · exact absurd rfl (isLt_ne (hz.1 x hx))
      · exact h3⟩)]
theorem LastOf.sub {xs ys : List Rs} (h : LastOf xs ys) : ∀ y ∈ ys, y ∈ xs := fun y hy => (lastOf_mem (h.last y hy)).1
theorem LastOf.len {xs ys : List Rs} (h : LastOf xs ys) : ys.length ≤ xs.length := len_le_of_sub ys xs (h.sorted.imp fun h => isLt_ne h) h.sub
theorem sorted_inj {ys : List Rs} (h : ys.Pairwise fun a b => isLt a.r.i b.r.i = true) {a b : Rs} (ha : a ∈ ys) (hb : b ∈ ys) (he : a.r.i = b.r.i) : a = b := by
  induction ys with
  | nil => exact absurd ha List.not_mem_nil
  | cons y ys ih =>
    rw [List.pairwise_cons] at h
    rw [List.mem_cons] at ha hb
    rcases ha with ha | ha
    · rcases hb with hb | hb
      · rw [ha, hb]
      · rw [ha] at he; exact absurd he (isLt_ne (h.1 b hb))
    · rcases hb with hb | hb
      · rw [hb] at he; exact absurd he.symm (isLt_ne (h.1 a ha))
      · exact ih h.2 ha hb
theorem LastOf.idem {xs ys zs : List Rs} (h : LastOf xs ys) (h2 : LastOf ys zs) : zs = ys :=
  eq_of_sorted zs ys h2.sorted h.sorted (fun x => ⟨h2.sub x, fun hx => by
    obtain ⟨z, hz, he⟩ := h2.all x hx
    rw [← sorted_inj h.sorted (h2.sub z hz) hx he]
    exact hz⟩)
theorem LastOf.step {xs ys : List Rs} (h : LastOf xs ys) {j : Nat} {p y : Rs} (hp : ys[j]? = some p) (hy : ys[j + 1]? = some y) : isLt p.r.i y.r.i = true := by
  obtain ⟨h1, e1⟩ := List.getElem?_eq_some_iff.1 hp
  obtain ⟨h2, e2⟩ := List.getElem?_eq_some_iff.1 hy
  rw [← e1, ← e2]
  exact List.pairwise_iff_getElem.1 h.sorted j (j + 1) h1 h2 (by omega)
theorem last_rs {w : World} {A B : Option Addr} {m n : Nat} {fs ys : List Rs} (hF : RsL w A m fs) (hl : LastOf fs ys) (hr : RdR w B n ys) : RsL w B n ys :=
  ⟨hr, fun y hy => hF.mem y (hl.sub y hy), fun y hy => hF.ok y (hl.sub y hy), fun y hy => hF.nums y (hl.sub y hy)⟩
theorem few_in {xs : List Rs} (h : ∀ x ∈ xs, inI x.r.i) (n : Nat) : ∀ y ∈ fewL xs n, inI y.r.i := fun y hy => by
  obtain ⟨x, hx, rfl⟩ := fewL_mem hy
  exact h x hx
/-- where the last one stands -/
def AtOf (v : Value) (fs : List Rs) (k : Nat) (i : Is) : Prop :=
  (v = .int .i64 (-1) ∧ lastOf (fs.take k) i = none) ∨ ∃ (q : Nat) (z : Rs), v = .int .i64 q ∧ q < k ∧ fs[q]? = some z ∧ lastOf (fs.take k) i = some z
theorem AtOf.nil {fs : List Rs} {i : Is} : AtOf (.int .i64 (-1)) fs 0 i := .inl ⟨rfl, by simp [lastOf]⟩
theorem AtOf.yes {fs : List Rs} {k : Nat} {i : Is} {x : Rs} (hx : fs[k]? = some x) (hi : x.r.i = i) : AtOf (.int .i64 k) fs (k + 1) i :=
  .inr ⟨k, x, rfl, by omega, hx, by rw [List.take_add_one, hx]; exact (lastOf_snoc _ _ _).trans (if_pos hi)⟩
theorem AtOf.no {v : Value} {fs : List Rs} {k : Nat} {i : Is} {x : Rs} (h : AtOf v fs k i) (hx : fs[k]? = some x) (hi : ¬ x.r.i = i) : AtOf v fs (k + 1) i := by
  have e : lastOf (fs.take (k + 1)) i = lastOf (fs.take k) i := by rw [List.take_add_one, hx]; exact (lastOf_snoc _ _ _).trans (if_neg hi)
  rcases h with ⟨h1, h2⟩ | ⟨q, z, h1, h2, h3, h4⟩
  · exact .inl ⟨h1, e.trans h2⟩
  · exact .inr ⟨q, z, h1, by omega, h3, e.trans h4⟩
def anyI (ys : List Rs) (i : Is) : Bool := ys.any fun y => decide (y.r.i = i)
theorem anyI_succ {ys : List Rs} {k : Nat} {y : Rs} (h : ys[k]? = some y) (i : Is) : anyI (ys.take (k + 1)) i = (anyI (ys.take k) i || decide (y.r.i = i)) := by
  unfold anyI
  rw [List.take_add_one, h, List.any_append]
  simp
theorem anyI_all {fs ys : List Rs} (h : LastOf fs ys) {x : Rs} (hx : x ∈ fs) : anyI ys x.r.i = true := by
  obtain ⟨y, hy, he⟩ := h.all x hx
  unfold anyI
  exact List.any_eq_true.2 ⟨y, hy, decide_eq_true he⟩
theorem rs_inst {w : World} {g o : Nat} {x : Rs} (h : w.rangeAt g o (rsC x)) : w.rangeAt g o [.int .i64 x.r.i.r, .int .i64 x.r.i.n] := rangeAt_take2 (by unfold rsC at h; exact h)
set_option maxRecDepth 100000 in
set_option maxHeartbeats 8000000 in
theorem logLast_walk (w : World) (A : Option Addr) (N c : Nat) (xs : List Rs) (h : RsL w A N xs) (hi : ∀ x ∈ xs, inI x.r.i) (hN : N ≤ 140737488355328) :
    Calls Tryz.prog 7 #[.slice A N c] w fun e w' => e = .returned (.bool true) ∧ Mod none_ w w' := by
  have kL := Lib.hid (lives_ok w)
  replace h := Lib.hid h
  replace hi := Lib.hid hi
  go_enter Tryz.func7, Tryz.ntmps7
  go_wp2_with fail
  refine kL.out.mono ?_
  rintro e w1 ⟨rfl, hm1⟩
  dsimp only
  have kF := Lib.hid (few_ok w1 A N c xs (Rd.mod0 h.out.rd hm1) (h.out.mem.mod0 hm1) h.out.ok hN)
  replace hm1 := Lib.hid hm1
  go_wp2_with fail
  refine kF.out.mono ?_
  rintro e w2 ⟨A2, m2, c2, rfl, ho2, hf2, hm2⟩
  dsimp only
  have hM2 := Lib.hid (hm1.out.trans hm2)
  have hY := Lib.hid (fewL_rs (h.out.mem.mod0 hM2.out) h.out.ok h.out.nums 20 ho2.rd)
  have hIf := Lib.hid (few_in hi.out 20)
  have hl2 : m2 ≤ 20 := by
    have h1 := ho2.len
    have h2 : (fewL xs 20).length ≤ 20 := by unfold fewL; simp; omega
    omega
  have hmc : m2 ≤ c2 := ho2.2.1
  generalize fewL xs 20 = fs at *
  clear hm1 hm2 hf2 kF ho2
  have kT := Lib.hid (last_ok w2 A2 m2 c2 fs hY.out.rd hIf.out (by omega))
  go_wp2_with fail
  refine kT.out.mono ?_
  rintro e w3 ⟨A3, n3, c3, ys, rfl, hla, ho3, hf3, hm3⟩
  dsimp only
  have hF3 := Lib.hid (hY.out.mod0 hm3)
  have hX3 := Lib.hid (last_rs hF3.out hla ho3.rd)
  have hyl := Lib.hid (hX3.out.len)
  have hfl := Lib.hid (hF3.out.len)
  have hl3 : n3 ≤ 20 := by
    have h1 := hla.len
    have h2 := hyl.out
    have h3 := hfl.out
    omega
  have hnc : n3 ≤ c3 := ho3.2.1
  have hM3 := Lib.hid (hM2.out.trans hm3)
  have hIy := Lib.hid (fun y hy => hIf.out y (hla.sub y hy))
  clear hm3 hf3 ho3 kT hM2 hY
  replace hla := Lib.hid hla
  go_wp2_with fail
  go_loopw [4] (fun y wr => ∃ j : Nat, y = .int .i64 j ∧ j ≤ n3 ∧ Mod none_ w3 wr) (fun y _ => n3 - (intOf y).toNat)
  case atStart => exact ⟨0, rfl, by omega, Mod.refl _ _⟩
  case round =>
    obtain ⟨j, rfl, hj, hm⟩ := hrel
    by_cases hlt : j < n3
    · obtain ⟨w4, rfl⟩ : ∃ wf, wf = wr := ⟨_, rfl⟩
      obtain ⟨g', o', y, hA3, hym, hy, hrg'⟩ := rdr_get (w := w4) (Rd.mod0 hX3.out.rd hm) hlt
      subst hA3
      replace hm := Lib.hid hm
      replace hym := Lib.hid hym
      replace hy := Lib.hid hy
      replace hrg' := Lib.hid hrg'
      go_wp2_with fail
      go_loopw [5, 6] (fun a k wr => ∃ p : Nat, k = .int .i64 p ∧ p ≤ m2 ∧ Mod none_ w4 wr ∧ AtOf a fs p y.r.i) (fun _ k _ => m2 - (intOf k).toNat)
      case atStart => exact ⟨0, rfl, by omega, Mod.refl _ _, AtOf.nil⟩
      case round =>
        obtain ⟨p, rfl, hp, hm5, hat⟩ := hrel
        by_cases hlp : p < m2
        · obtain ⟨g, o, x, hA2, hxm, hx, hrg⟩ := rdr_get (w := wr) (Rd.mod0 hF3.out.rd (hm.out.trans hm5)) hlp
          subst hA2
          have hei := fun W => eql_is W x.r.i y.r.i
          unfold isV at hei
          have r1 := rs_inst hrg
          have r2 := rs_inst (rangeAt_mod hrg'.out hm5)
          have a0 : wr.cell? ⟨g, o + p * 17, none⟩ = some (.int .i64 x.r.i.r) := r1 0 _ rfl
          have a1 : wr.cell? ⟨g, o + p * 17 + 1, none⟩ = some (.int .i64 x.r.i.n) := r1 1 _ rfl
          have b0 : wr.cell? ⟨g', o' + j * 17, none⟩ = some (.int .i64 y.r.i.r) := r2 0 _ rfl
          have b1 : wr.cell? ⟨g', o' + j * 17 + 1, none⟩ = some (.int .i64 y.r.i.n) := r2 1 _ rfl
          clear r1 r2
          replace hxm := Lib.hid hxm
          replace hx := Lib.hid hx
          replace hrg := Lib.hid hrg
          by_cases hxy : x.r.i = y.r.i
          · as_aux_lemma =>
              rw [decide_eq_true hxy] at hei
              replace hat := Lib.hid (AtOf.yes hx.out hxy)
              replace hm5 := Lib.hid hm5
              replace hxy := Lib.hid hxy
              go_wp2_with (go_quiet (fail))
              go_roundw
              case rel => exact ⟨p + 1, by go_num, by omega, hm5.out.drewN _, hat.out⟩
              case measure => simp [intOf]; omega
          · as_aux_lemma =>
              rw [decide_eq_false hxy] at hei
              replace hat := Lib.hid (AtOf.no hat hx.out hxy)
              replace hm5 := Lib.hid hm5
              replace hxy := Lib.hid hxy
              go_wp2_with (go_quiet (fail))
              go_roundw
              case rel => exact ⟨p + 1, by go_num, by omega, hm5.out.drewN _, hat.out⟩
              case measure => simp [intOf]; omega
        · obtain rfl : p = m2 := by omega
          have e1 := hla.out.last y hym.out
          rcases hat with hat | hat
          · exfalso
            have h2 := hat.2
            rw [List.take_of_length_le (by rw [hfl.out]; exact Nat.le_refl _), e1] at h2
            cases h2
          obtain ⟨q, z, rfl, hq, hfq, h4⟩ := hat
          rw [List.take_of_length_le (by rw [hfl.out]; exact Nat.le_refl _), e1] at h4
          obtain rfl := Option.some.inj h4
          clear h4 e1
          obtain ⟨g, o, x, hA2, hxm, hx, hrg⟩ := rdr_get (w := wr) (Rd.mod0 hF3.out.rd (hm.out.trans hm5)) hq
          subst hA2
          obtain rfl : x = y := by rw [hx] at hfq; exact Option.some.inj hfq
          obtain ⟨w5, rfl⟩ : ∃ wf, wf = wr := ⟨_, rfl⟩
          have hMw := Lib.hid (hm.out.trans hm5)
          have hrg5 := rangeAt_mod hrg'.out hm5
          have hxL := fun W (hM : Mod none_ w5 W) => RsL.one (rdR_range (rangeAt_mod hrg hM)) ((hX3.out.mem x hym.out).mod0 (hMw.out.trans hM)) (hX3.out.ok x hym.out) (hX3.out.nums x hym.out)
          have hyL := fun W (hM : Mod none_ w5 W) => RsL.one (rdR_range (rangeAt_mod hrg5 hM)) ((hX3.out.mem x hym.out).mod0 (hMw.out.trans hM)) (hX3.out.ok x hym.out) (hX3.out.nums x hym.out)
          have hcne : Nonempty (Cls (Mod none_ w5)) := ⟨⟨_, Mod.refl _ _⟩⟩
          have kc := Lib.hid (fun s : Cls (Mod none_ w5) => (same15_eq s.W (some ⟨g', o' + j * 17, none⟩) (some ⟨g, o + q * 17, none⟩) 1 1 (c3 - j) (c2 - q) [x] [x] (hyL s.W s.ok) (hxL s.W s.ok) rfl (by omega)).mono (fun e w' (h : _ ∧ _) => (⟨h.1, s.ok.trans h.2⟩ : _ ∧ Mod none_ w5 w')))
          clear hxL hyL
          have z1 : ¬ c3 = j := by omega
          have z2 : j + 1 ≤ c3 := by omega
          have z3 : (j : Int) + 1 ≤ (c3 : Int) := by omega
          have z4 : 0 ≤ (j : Int) + 1 := by omega
          have z5 : IntKind.i64.wrap ((j : Int) + 1) = ((j + 1 : Nat) : Int) := by
            simp [IntKind.wrap, IntKind.bits, IntKind.signed]; omega
          have z6 : j + 1 - j = 1 := by omega
          have y1 : ¬ c2 = q := by omega
          have y2 : q + 1 ≤ c2 := by omega
          have y3 : (q : Int) + 1 ≤ (c2 : Int) := by omega
          have y4 : 0 ≤ (q : Int) + 1 := by omega
          have y5 : IntKind.i64.wrap ((q : Int) + 1) = ((q + 1 : Nat) : Int) := by
            simp [IntKind.wrap, IntKind.bits, IntKind.signed]; omega
          have y6 : q + 1 - q = 1 := by omega
          have hq0 : decide ((q : Int) < 0) = false := decide_eq_false (by omega)
          have f0 : ∀ s : Cls (Mod none_ w5), s.W.cell? ⟨g', o' + j * 17, none⟩ = some (.int .i64 x.r.i.r) := fun s => rs_inst (rangeAt_mod hrg5 s.ok) 0 _ rfl
          have f1 : ∀ s : Cls (Mod none_ w5), s.W.cell? ⟨g', o' + j * 17 + 1, none⟩ = some (.int .i64 x.r.i.n) := fun s => rs_inst (rangeAt_mod hrg5 s.ok) 1 _ rfl
          replace hm5 := Lib.hid hm5
          replace hrg := Lib.hid hrg
          replace hxm := Lib.hid hxm
          replace hx := Lib.hid hx
          replace hfq := Lib.hid hfq
          replace hrg5 := Lib.hid hrg5
          by_cases hj0 : j = 0
          · as_aux_lemma =>
              have d1 : decide ((j : Int) > 0) = false := decide_eq_false (by omega)
              have d2 : decide (0 < j) = false := decide_eq_false (by omega)
              have d3 : decide ((0 : Int) < (j : Int)) = false := decide_eq_false (by omega)
              replace hj0 := Lib.hid hj0
              go_wp2_with fail
              refine wp_region_cls (Mod none_ w5) (by as_aux_lemma => kernel_rfl) (by as_aux_lemma => kernel_rfl) (Mod.refl none_ _).drew ?_
              try simp only [List.append_eq, List.cons_append, List.nil_append]
              repeat (go_big_quiet_step ((go_at_call 14; exact cls_of (kc.out _))))
              refine wpQuiet_nil ?_
              rintro _ ⟨⟨W, hW⟩, rfl⟩
              replace hW := Lib.hid (hMw.out.trans hW)
              go_wp2_with fail
              go_roundw
              case rel => exact ⟨j + 1, by go_num, by omega, hW.out⟩
              case measure => simp [intOf]; omega
          · obtain ⟨j1, rfl⟩ : ∃ j1, j = j1 + 1 := ⟨j - 1, by omega⟩
            obtain ⟨g2, o2, p1, hA3', hpm, hp1, hrp⟩ := rdr_get (w := w5) (Rd.mod0 hX3.out.rd hMw.out) (j := j1) (by omega)
            cases hA3'
            have hst := hla.out.step hp1 hy.out
            unfold isLt at hst
            simp only [decide_eq_true_eq] at hst
            have f2 : ∀ s : Cls (Mod none_ w5), s.W.cell? ⟨g', o' + j1 * 17, none⟩ = some (.int .i64 p1.r.i.r) := fun s => rs_inst (rangeAt_mod hrp s.ok) 0 _ rfl
            have f3 : ∀ s : Cls (Mod none_ w5), s.W.cell? ⟨g', o' + j1 * 17 + 1, none⟩ = some (.int .i64 p1.r.i.n) := fun s => rs_inst (rangeAt_mod hrp s.ok) 1 _ rfl
            have hw1 : wrap64 (((j1 + 1 : Nat) : Int) - 1) = (j1 : Int) := by unfold wrap64; omega
            have hw2 : IntKind.i64.wrap (((j1 + 1 : Nat) : Int) - 1) = (j1 : Int) := by rw [IntKind.wrap_i64]; omega
            have hw3 : ((j1 : Int) + 1 - 1) = (j1 : Int) := by omega
            have hu1 : (0 : Int) ≤ (j1 : Int) := by omega
            have hu2 : (j1 : Int) < (n3 : Int) := by omega
            replace hpm := Lib.hid hpm
            replace hp1 := Lib.hid hp1
            replace hrp := Lib.hid hrp
            by_cases hrr : p1.r.i.r < x.r.i.r
            · as_aux_lemma =>
                have d1 : decide (p1.r.i.r < x.r.i.r) = true := decide_eq_true hrr
                replace hst := Lib.hid hst
                replace hrr := Lib.hid hrr
                go_wp2_with fail
                refine wp_region_cls (Mod none_ w5) (by as_aux_lemma => kernel_rfl) (by as_aux_lemma => kernel_rfl) (Mod.refl none_ _).drew ?_
                try simp only [List.append_eq, List.cons_append, List.nil_append]
                repeat (go_big_quiet_step ((go_at_call 14; exact cls_of (kc.out _))))
                refine wpQuiet_nil ?_
                rintro _ ⟨⟨W, hW⟩, rfl⟩
                replace hW := Lib.hid (hMw.out.trans hW)
                go_wp2_with fail
                go_roundw
                case rel => exact ⟨j1 + 1 + 1, by go_num, by omega, hW.out⟩
                case measure => simp [intOf]; omega
            · as_aux_lemma =>
                have d1 : decide (p1.r.i.r < x.r.i.r) = false := decide_eq_false hrr
                have he : p1.r.i.r = x.r.i.r := by omega
                have hn : p1.r.i.n < x.r.i.n := by omega
                have d2 : decide (p1.r.i.r = x.r.i.r) = true := decide_eq_true he
                have d3 : (p1.r.i.r == x.r.i.r) = true := by simp [he]
                have d4 : decide (p1.r.i.n < x.r.i.n) = true := decide_eq_true hn
                replace hst := Lib.hid hst
                replace hrr := Lib.hid hrr
                replace he := Lib.hid he
                replace hn := Lib.hid hn
                go_wp2_with fail
                refine wp_region_cls (Mod none_ w5) (by as_aux_lemma => kernel_rfl) (by as_aux_lemma => kernel_rfl) (Mod.refl none_ _).drew ?_
                try simp only [List.append_eq, List.cons_append, List.nil_append]
                repeat (go_big_quiet_step ((go_at_call 14; exact cls_of (kc.out _))))
                refine wpQuiet_nil ?_
                rintro _ ⟨⟨W, hW⟩, rfl⟩
                replace hW := Lib.hid (hMw.out.trans hW)
                go_wp2_with fail
                go_roundw
                case rel => exact ⟨j1 + 1 + 1, by go_num, by omega, hW.out⟩
                case measure => simp [intOf]; omega
    · obtain rfl : j = n3 := by omega
      obtain ⟨w4, rfl⟩ : ∃ wf, wf = wr := ⟨_, rfl⟩
      replace hm := Lib.hid hm
      go_wp2_with fail
      go_loopw [7] (fun y wr => ∃ k : Nat, y = .int .i64 k ∧ k ≤ m2 ∧ Mod none_ w4 wr) (fun y _ => m2 - (intOf y).toNat)
      case atStart => exact ⟨0, rfl, by omega, Mod.refl _ _⟩
      case round =>
        obtain ⟨k, rfl, hk, hm5⟩ := hrel
        by_cases hlk : k < m2
        · obtain ⟨w5, rfl⟩ : ∃ wf, wf = wr := ⟨_, rfl⟩
          obtain ⟨g, o, x, hA2, hxm, hx, hrg⟩ := rdr_get (w := w5) (Rd.mod0 hF3.out.rd (hm.out.trans hm5)) hlk
          subst hA2
          replace hm5 := Lib.hid hm5
          replace hxm := Lib.hid hxm
          replace hx := Lib.hid hx
          replace hrg := Lib.hid hrg
          go_wp2_with fail
          go_loopw [8, 9] (fun b i wr => ∃ (p : Nat) (bb : Bool), i = .int .i64 p ∧ b = .bool bb ∧ bb = anyI (ys.take p) x.r.i ∧ p ≤ j ∧ Mod none_ w5 wr) (fun _ i _ => j - (intOf i).toNat)
          case atStart => exact ⟨0, false, rfl, rfl, by simp [anyI], by omega, Mod.refl _ _⟩
          case round =>
            obtain ⟨p, bb, rfl, rfl, hbb, hp, hm6⟩ := hrel
            by_cases hlp : p < j
            · obtain ⟨g', o', y, hA3, hym, hy, hrg'⟩ := rdr_get (w := wr) (Rd.mod0 hX3.out.rd (hm.out.trans (hm5.out.trans hm6))) hlp
              subst hA3
              have hei := fun W => eql_is W y.r.i x.r.i
              unfold isV at hei
              have r1 := rs_inst (rangeAt_mod hrg.out hm6)
              have r2 := rs_inst hrg'
              have a0 : wr.cell? ⟨g, o + k * 17, none⟩ = some (.int .i64 x.r.i.r) := r1 0 _ rfl
              have a1 : wr.cell? ⟨g, o + k * 17 + 1, none⟩ = some (.int .i64 x.r.i.n) := r1 1 _ rfl
              have b0 : wr.cell? ⟨g', o' + p * 17, none⟩ = some (.int .i64 y.r.i.r) := r2 0 _ rfl
              have b1 : wr.cell? ⟨g', o' + p * 17 + 1, none⟩ = some (.int .i64 y.r.i.n) := r2 1 _ rfl
              have hs := anyI_succ hy x.r.i
              rw [← hbb] at hs
              clear r1 r2 hbb
              replace hym := Lib.hid hym
              replace hy := Lib.hid hy
              replace hrg' := Lib.hid hrg'
              replace hm6 := Lib.hid hm6
              cases bb with
              | true =>
                rw [Bool.true_or] at hs
                replace hs := Lib.hid hs.symm
                clear hei
                go_wp2_with (go_quiet (fail))
                go_roundw
                case rel => exact ⟨p + 1, true, by go_num, rfl, hs.out, by omega, hm6.out.drewN _⟩
                case measure => simp [intOf]; omega
              | false =>
                rw [Bool.false_or] at hs
                by_cases hyx : y.r.i = x.r.i
                · as_aux_lemma =>
                    rw [decide_eq_true hyx] at hei hs
                    replace hs := Lib.hid hs.symm
                    replace hyx := Lib.hid hyx
                    go_wp2_with (go_quiet (fail))
                    go_roundw
                    case rel => exact ⟨p + 1, true, by go_num, rfl, hs.out, by omega, hm6.out.drewN _⟩
                    case measure => simp [intOf]; omega
                · as_aux_lemma =>
                    rw [decide_eq_false hyx] at hei hs
                    replace hs := Lib.hid hs.symm
                    replace hyx := Lib.hid hyx
                    go_wp2_with (go_quiet (fail))
                    go_roundw
                    case rel => exact ⟨p + 1, false, by go_num, rfl, hs.out, by omega, hm6.out.drewN _⟩
                    case measure => simp [intOf]; omega
            · as_aux_lemma =>
                obtain rfl : p = j := by omega
                have hany : anyI (ys.take p) x.r.i = true := by
                  rw [List.take_of_length_le (by rw [hyl.out]; exact Nat.le_refl _)]
                  exact anyI_all hla.out hxm.out
                rw [hany] at hbb
                subst hbb
                have hM5 := Lib.hid (hm5.out.trans hm6)
                clear hm6 hany
                go_wp2_with fail
                go_roundw
                case rel => exact ⟨k + 1, by go_num, by omega, hM5.out⟩
                case measure => simp [intOf]; omega
        · as_aux_lemma =>
            obtain rfl : k = m2 := by omega
            have hX6 := Lib.hid (hX3.out.mod0 (hm.out.trans hm5))
            have kT2 := Lib.hid (last_ok wr A3 j c3 ys hX6.out.rd hIy.out (by omega))
            have hM6 := Lib.hid (hM3.out.trans (hm.out.trans hm5))
            clear hm5
            go_wp2_with fail
            refine kT2.out.mono ?_
            rintro e w7 ⟨A7, n7, c7, zs, rfl, hla7, ho7, hf7, hm7⟩
            dsimp only
            obtain rfl : zs = ys := hla.out.idem hla7
            have hZ7 := last_rs (hX6.out.mod0 hm7) hla7 ho7.rd
            have kS := Lib.hid (same15_eq w7 A7 A3 n7 j c7 c3 zs zs hZ7 (hX6.out.mod0 hm7) rfl (by have h1 := hZ7.len; have h2 := hyl.out; omega))
            have hX7 := hX6.out.mod0 hm7
            have kE := Lib.hid (fun W (hM : Mod none_ w7 W) => logSame_self W A3 j c3 zs (hX7.mod0 hM) (by omega))
            have hM7 := Lib.hid (hM6.out.trans hm7)
            clear hm7 hf7 ho7 hla7 hZ7 hX7 kT2
            go_wp2_with fail
            refine kS.out.mono ?_
            rintro e w8 ⟨rfl, hm8⟩
            dsimp only
            replace hm8 := Lib.hid hm8
            go_wp2_with fail
            refine (kE.out _ hm8.out).mono ?_
            rintro e w9 ⟨rfl, hm9⟩
            dsimp only
            replace hm9 := Lib.hid hm9
            go_wp2_with fail
            go_ret
            exact ⟨rfl, hM7.out.trans (hm8.out.trans hm9.out)⟩
end Go.Proofs.YtdnbclhidpkpgaaGreat
