/-
  RatioMean: the walk. The table of powers of ten reads as the program's text lays it.
-/
import Derived.Test.YtlikknamliamiaaDoorRatMean
import Derived.Test.YtlikknamliamiaaDoorRatLives
import Derived.Test.YtlikknamliamiaaDoorOpen
namespace Go.Proofs.YtlikknamliamiaaDoor
set_option linter.unusedVariables false
open Go.RowKit
theorem umod_lit' (x : Int) (m : Nat) (h0 : 0 < m) (h1 : m ≤ 1000000) : ∃ k : Nat, k < m ∧ (IntKind.u64.wrap x).tmod (m : Int) = (k : Int) ∧ IntKind.u64.wrap x % (m : Int) = (k : Int) := by
  have hx := (wrap_u64_lt x).1
  generalize IntKind.u64.wrap x = q at hx
  have e : q.tmod (m : Int) = q % (m : Int) := Int.tmod_eq_emod_of_nonneg hx
  have l1 := Int.emod_nonneg q (b := (m : Int)) (by omega)
  have l2 := Int.emod_lt_of_pos q (show (0 : Int) < (m : Int) by omega)
  exact ⟨(q % (m : Int)).toNat, by omega, by omega, by omega⟩
theorem f64info : (Tryd.prog.info? 22).map (fun i => (i.zero, i.size, i.bytes)) = some (some (.float .f64 0), 1, 8) := by kernel_rfl
theorem appF {w : World} {ops : Array Oper} {rest : List Oper} {o : Oper} {a : Act} {Q : Exit → Act → World → Prop} (hgd : o.guard = none) (s x : Operand)
    (ho : o.op = .call { callee := .builtin .append, args := #[s, x], argTypes := #[38, 38] })
    {A : Option Addr} {n c : Nat} {xs : List Int} (hs : a.eval s = .slice A n c) (hown : OwF w A n c xs)
    {S : Option Addr} {m d : Nat} {news : List Int} (hx : a.eval x = .slice S m d) (hr : RdF w S m news) (hb : (n + m) * 8 ≤ 140737488355328)
    (h : ∀ A' c' w', OwF w' A' (n + m) c' (xs ++ news) → Mod (fp A) w w' → (A' = A ∨ A' = some ⟨w.heap.size, 0, none⟩) → wpList Tryd.prog ops Q rest (a.put o.dst (.slice A' (n + m) c')) w') : wpList Tryd.prog ops Q (o :: rest) a w := by
  obtain ⟨i0, hi, hz0, hz1, hz2⟩ := info_parts f64info
  refine wpList_append_ow hgd s x 38 ho 22 i0 _ 1 8 Tryd.underlying38 hi hz0 hz1 hz2 rfl (by omega) A n c (fvs xs) hs hown S m d (fvs news) hx hr (fvs_one _) (by omega) (by omega) ?_
  intro A' c' w' h1
  rw [← fvs_append] at h1
  exact h A' c' w' h1
theorem rdf_one (w : World) (e : TypeId) (k : Int) (x : Value) (h : x = .float .f64 (ofI k)) : RdF (w.alloc (.cells #[x] e)) (some ⟨w.heap.size, 0, none⟩) 1 [k] := by
  subst h
  exact rdn w e 1 1 w.heap.size #[.float .f64 (ofI k)] (0, 0) rfl rfl
theorem OwF.len {w : World} {A : Option Addr} {n c : Nat} {l : List Int} (h : OwF w A n c l) : l.length = n := by have := h.1; rw [fvs_length] at this; omega
theorem early_ok (w : World) (A : Option Addr) (n c : Nat) (hnc : n ≤ c) : Calls Tryd.prog 19 #[.slice A n c] w fun e w' => e = .returned (.slice A (min n 100) c) ∧ w = w' := by
  have e1 : (min (n : Int) 100).toNat = min n 100 := by omega
  go_enter Tryd.func19, Tryd.ntmps19
  go_wp2_with fail
  go_ret
  exact ⟨rfl, rfl⟩
def Lims (l : List Int) (lo hi : Int) : Prop := (∀ x ∈ l, lo ≤ x ∧ x ≤ hi) ∧ lo.natAbs ≤ 2^40 ∧ hi.natAbs ≤ 2^40
theorem Lims.snoc {l : List Int} {lo hi x : Int} (h : Lims l lo hi) (hx : x.natAbs ≤ 2^30) : Lims (l ++ [x]) (min lo x) (max hi x) := by
  obtain ⟨h1, h2, h3⟩ := h
  refine ⟨fun y hy => ?_, by omega, by omega⟩
  rcases List.mem_append.1 hy with hy | hy
  · have := h1 y hy; omega
  · have := List.mem_singleton.1 hy; omega
def LmRel (w : World) (xs ks : List Int) (j : Nat) (v5 v6 v7 v8 : Value) (wr : World) : Prop := ∃ A c B d lo hi, v5 = .slice A j c ∧ v6 = .slice B j d ∧ v7 = .int .i64 lo ∧ v8 = .int .i64 hi ∧
  OwI wr A j c (xs.take j) ∧ OwF wr B j d (ks.take j) ∧ Fresh w A ∧ Fresh w B ∧ Mod none_ w wr ∧ Lims (xs.take j) lo hi
theorem LmRel.zero {w wr : World} (xs ks : List Int) (h : Mod none_ w wr) : LmRel w xs ks 0 (.slice none 0 0) (.slice none 0 0) (.int .i64 1099511627776) (.int .i64 (-1099511627776)) wr :=
  ⟨none, 0, none, 0, _, _, rfl, rfl, rfl, rfl, Ow.nil _ _ _, Ow.nil _ _ _, (fun _ h => by cases h), (fun _ h => by cases h), h, ⟨fun x hx => by simp at hx, by decide, by decide⟩⟩
/-- the greater and the less, and a little -/
theorem mean_marks (lo hi : Int) (z : Nat) (hl : lo.natAbs ≤ 2^40) (hh : hi.natAbs ≤ 2^40) (hz : Fin' z) (h1 : lo*U ≤ V z) (h2 : V z ≤ hi*U) :
    ∃ a b, D.sub (ofI lo) milli_ = some a ∧ D.add (ofI hi) milli_ = some b ∧ (FloatKind.f64.format.order z a == some .gt || FloatKind.f64.format.order z a == some .eq) = true ∧
      (FloatKind.f64.format.order z b == some .lt || FloatKind.f64.format.order z b == some .eq) = true ∧ (lo = hi → (FloatKind.f64.format.order z (ofI lo) == some .eq) = true) := by
  obtain ⟨a, a1, a2, a3⟩ := less_milli lo (by omega)
  obtain ⟨b, b1, b2, b3⟩ := more_milli hi (by omega)
  obtain ⟨f1, f2⟩ := ofI_fin lo (by omega)
  have hn := not_nan_of_fin hz
  refine ⟨a, b, a1, b1, ?_, ?_, fun e => ?_⟩
  · rw [show FloatKind.f64.format.order z a = _ from order_num z a hn a2]
    rcases Int.lt_or_eq_of_le (Int.le_trans a3 h1) with c | c
    · rw [Int.compare_eq_gt.2 c]; rfl
    · rw [Int.compare_eq_eq.2 c.symm]; rfl
  · rw [show FloatKind.f64.format.order z b = _ from order_num z b hn b2]
    rcases Int.lt_or_eq_of_le (Int.le_trans h2 b3) with c | c
    · rw [Int.compare_eq_lt.2 c]; rfl
    · rw [Int.compare_eq_eq.2 c]; rfl
  · subst e
    rw [show FloatKind.f64.format.order z (ofI lo) = _ from order_num z (ofI lo) hn (not_nan_of_fin f1), f2, Int.compare_eq_eq.2 (Int.le_antisymm h2 h1)]; rfl
set_option maxRecDepth 100000 in
set_option maxHeartbeats 4000000 in
theorem ratioMean_walk (w : World) (A B : Option Addr) (n c n2 d : Nat) (l ws : List Int) (h : RdI w A n l) (hnc : n ≤ c) (h2 : RdI w B n2 ws) (hT : Tab w) :
    Calls Tryd.prog 7 #[.slice A n c, .slice B n2 d] w fun e w' => e = .returned (.bool true) ∧ Below w.heap.size w w' := by
  have c0 := Lib.hid (lives_ok w hT)
  have ce := Lib.hid (fun W => early_ok W A n c hnc)
  have hl := h.len
  have hl2 := h2.len
  obtain ⟨m, hm⟩ : ∃ m, min (min n 100) n2 = m := ⟨_, rfl⟩
  have hxl : ((l.take m).map (fun a => a.tmod 1073741824)).length = m := by simp; omega
  have hkl : ((ws.take m).map (fun a => 1 + (IntKind.u64.wrap a).tmod 100)).length = m := by simp; omega
  have hxs : ∀ x ∈ (l.take m).map (fun a => a.tmod 1073741824), x.natAbs ≤ 2^30 := by
    intro x hx
    obtain ⟨a, _, rfl⟩ := List.mem_map.1 hx
    rw [Int.natAbs_tmod]; exact Nat.le_of_lt (Nat.mod_lt _ (by decide))
  have hks : ∀ k ∈ (ws.take m).map (fun a => 1 + (IntKind.u64.wrap a).tmod 100), 0 < k ∧ k ≤ 100 := by
    intro x hx
    obtain ⟨a, _, rfl⟩ := List.mem_map.1 hx
    obtain ⟨k, hk, u1, u2⟩ := umod_lit' a 100 (by omega) (by omega)
    rw [show ((100 : Nat) : Int) = 100 from rfl] at u1
    omega
  have hxg : ∀ j (h1 : j < ((l.take m).map (fun a => a.tmod 1073741824)).length) (h2 : j < l.length), ((l.take m).map (fun a => a.tmod 1073741824))[j] = l[j].tmod 1073741824 := by
    intro j h1 h2; simp
  have hkg : ∀ j (h1 : j < ((ws.take m).map (fun a => 1 + (IntKind.u64.wrap a).tmod 100)).length) (h2 : j < ws.length), ((ws.take m).map (fun a => 1 + (IntKind.u64.wrap a).tmod 100))[j] = 1 + (IntKind.u64.wrap ws[j]).tmod 100 := by
    intro j h1 h2; simp
  generalize (l.take m).map (fun a => a.tmod 1073741824) = xs at hxl hxs hxg
  generalize (ws.take m).map (fun a => 1 + (IntKind.u64.wrap a).tmod 100) = ks at hkl hks hkg
  replace h := Lib.hid h
  replace h2 := Lib.hid h2
  replace hl := Lib.hid hl
  replace hl2 := Lib.hid hl2
  replace hxl := Lib.hid hxl
  replace hkl := Lib.hid hkl
  replace hxs := Lib.hid hxs
  replace hks := Lib.hid hks
  replace hxg := Lib.hid hxg
  replace hkg := Lib.hid hkg
  replace hT := Lib.hid hT
  go_enter Tryd.func7, Tryd.ntmps7
  go_wp2_with fail
  refine c0.out.mono ?_
  rintro e w0 ⟨rfl, hm0⟩
  dsimp only
  replace hm0 := Lib.hid hm0
  go_wp2_with fail
  refine (ce.out _).mono ?_
  rintro e w1 ⟨rfl, rfl⟩
  dsimp only
  go_wp2_with fail
  go_loopw [5, 6, 7, 8, 9] (fun v5 v6 v7 v8 x wr => ∃ j : Nat, x = .int .i64 j ∧ j ≤ m ∧ LmRel w xs ks j v5 v6 v7 v8 wr) (fun _ _ _ _ x _ => m - (intOf x).toNat)
  case atStart => exact ⟨0, rfl, by omega, LmRel.zero xs ks hm0.out⟩
  case round =>
    obtain ⟨j, rfl, hj, A1, c1, B1, d1, lo, hi, rfl, rfl, rfl, rfl, oA, oB, fA, fB, hmr, hL⟩ := hrel
    by_cases hlt : j < m
    · have hj1 : j < n := by omega
      have hj3 : j < min n 100 := by omega
      have hj2 : j < n2 := by omega
      obtain ⟨b, o, e, hc⟩ := Rd.form (h.out.mod0 hmr) (show 0 < n by omega) (by omega)
      obtain ⟨b', o', e', hc'⟩ := Rd.form (h2.out.mod0 hmr) (show 0 < n2 by omega) (by omega)
      subst e e'
      have hjl : j < l.length := by rw [hl.out]; exact hj1
      have hjw : j < ws.length := by rw [hl2.out]; exact hj2
      have hjx : j < xs.length := by rw [hxl.out]; exact hlt
      have hjk : j < ks.length := by rw [hkl.out]; exact hlt
      have hcell := hc j _ (ivs_get hjl)
      have hcell' := hc' j _ (ivs_get hjw)
      clear hc hc'
      have hg := hxg.out j hjx hjl
      have hg' := hkg.out j hjk hjw
      have hnx := Lib.hid (take_snoc hjx)
      have hnk := Lib.hid (take_snoc hjk)
      have hxb := Lib.hid (hxs.out _ (List.getElem_mem hjx))
      obtain ⟨q, hq, q1, q2⟩ := umod_lit' ws[j] 100 (by omega) (by omega)
      rw [show ((100 : Nat) : Int) = 100 from rfl] at q1 q2
      rw [q1] at hg'
      generalize xs[j] = r at hg hnx hxb
      generalize ks[j] = k at hg' hnk
      generalize l[j] = y at hcell hg
      generalize ws[j] = y' at hcell' q1 q2
      have hg2 := hg.symm
      have oB1 := Lib.hid oB
      have ne1 := Lib.hid (oA.ne_ow oB (by decide))
      have hb' : b' < w.heap.size := Rd.lt h2.out (by omega) b' ⟨_, rfl, rfl⟩
      have hnf : ¬ fp A1 b' := by rintro ⟨a, ha, hab⟩; have := fA a ha; omega
      have hld := Lib.hid (fun (ob : Obj) (w' : World) (hm' : Mod (fp A1) (wr.alloc ob) w') => hm'.cell_some (((Mod.refl none_ wr).alloc ob).cell_some hcell' (fun h => h)) hnf)
      clear hb' hnf hcell'
      replace oA := Lib.hid oA
      replace oB := Lib.hid oB
      replace fA := Lib.hid fA
      replace fB := Lib.hid fB
      replace hmr := Lib.hid hmr
      replace hL := Lib.hid hL
      replace hjl := Lib.hid hjl
      replace hjw := Lib.hid hjw
      replace hjx := Lib.hid hjx
      replace hjk := Lib.hid hjk
      replace hg := Lib.hid hg
      replace hg' := Lib.hid hg'
      clear hm
      go_wp2_with (at_builtin; first
        | (refine app64 rfl (.tmp 34) (.tmp 36) rfl rfl (oA.out.mod0 ((Mod.refl none_ _).alloc _)) rfl (rdi_one _ _ _) (by omega) ?_; intro A' c' w' ho' hm' hA'; have hcell2 := hld.out _ _ hm'; replace ho' := Lib.hid ho'; replace hm' := Lib.hid hm'; replace hA' := Lib.hid hA')
        | (refine appF rfl (.tmp 38) (.tmp 48) rfl rfl (((oB1.out.mod0 ((Mod.refl none_ _).alloc _)).mod hm'.out (fun i hk hk2 => ne1.out i hk2 hk)).mod0 ((Mod.refl none_ _).alloc _)) rfl (rdf_one _ _ k _ (by rw [hg'.out]; rfl)) (by omega) ?_; intro B' d' w2 ho2 hm2 hB'; replace ho2 := Lib.hid ho2; replace hm2 := Lib.hid hm2; replace hB' := Lib.hid hB'))
      go_roundw
      case rel =>
        have m1 : Mod none_ w w' := (hmr.out.alloc _).app fA.out hm'.out
        have m2 : Mod none_ w w2 := (m1.alloc _).app fB.out hm2.out
        have fA' : Fresh w A' := Fresh.app fA.out (hmr.out.alloc _).size hA'.out
        have fB' : Fresh w B' := Fresh.app fB.out (m1.alloc _).size hB'.out
        have oB2 : OwF w' B1 j d1 (ks.take j) := (oB1.out.mod0 ((Mod.refl none_ _).alloc _)).mod hm'.out (fun i hk hk2 => ne1.out i hk2 hk)
        have ne2 := Ow.ne_ow ho'.out oB2 (by decide)
        have oA2 : OwI w2 A' (j+1) c' (xs.take j ++ [r]) := (Ow.mod0 ho'.out ((Mod.refl none_ _).alloc _)).mod hm2.out ne2
        refine ⟨j + 1, by go_num, by omega, A', c', B', d', _, _, rfl, rfl, rfl, rfl, ?_, ?_, fA', fB', m2, ?_⟩
        · rw [← hnx.out]; exact oA2
        · rw [← hnk.out]; exact ho2.out
        · rw [← hnx.out]; exact hL.out.snoc hxb.out
      case measure => simp [intOf]; omega
    · have hjm : j = m := by omega
      subst hjm
      have hallx : xs.take j = xs := List.take_of_length_le (by have := hxl.out; omega)
      have hallk : ks.take j = ks := List.take_of_length_le (by have := hkl.out; omega)
      rw [hallx] at oA hL
      rw [hallk] at oB
      clear hallx hallk
      have hend : (min (n:Int) 100 ≤ (j:Int)) ∨ ((j:Int) < min (n:Int) 100 ∧ (n2:Int) ≤ (j:Int)) := by omega
      have hendN : ((min n 100 : Nat) : Int) = min (n:Int) 100 := by omega
      have hj100 : j ≤ 100 := by omega
      have hcA := Lib.hid oA.2.1
      have o0 : FloatKind.f64.format.order 0 0 = some .eq := order_self 0 (by unfold Nan infR; decide)
      clear hlt hj hm
      by_cases hj0 : j = 0
      · subst hj0
        have cn := Lib.hid (fun W => mean_nil W A1 B1 c1 d1)
        replace oA := Lib.hid oA
        replace oB := Lib.hid oB
        replace fA := Lib.hid fA
        replace fB := Lib.hid fB
        replace hmr := Lib.hid hmr
        replace hL := Lib.hid hL
        replace hj100 := Lib.hid hj100
        rcases hend with hend | ⟨hend, hend2⟩
        all_goals
          go_wp2_with fail
          refine (cn.out _).mono ?_
          rintro e w2 ⟨rfl, hm1⟩
          dsimp only
          have m1 := Lib.hid (hmr.out.then hm1 (fun _ _ h => h))
          clear hm1
          go_wp2_with fail
          go_ret
          exact ⟨rfl, m1.out.below0⟩
      · have cm := Lib.hid (fun W hA hB => mean_ok W A1 B1 j c1 d1 xs ks lo hi hA hB hcA.out hj100 (by omega) hxs.out hks.out hL.2.1 hL.2.2 hL.1)
        have hmk := Lib.hid (fun z hz h1 h2 => mean_marks lo hi z hL.2.1 hL.2.2 hz h1 h2)
        have hj1 : ((j:Int) == 0) = false := by simp; omega
        replace oA := Lib.hid oA
        replace oB := Lib.hid oB
        replace fA := Lib.hid fA
        replace fB := Lib.hid fB
        replace hmr := Lib.hid hmr
        replace hL := Lib.hid hL
        replace hj100 := Lib.hid hj100
        rcases hend with hend | ⟨hend, hend2⟩
        all_goals
          go_wp2_with fail
          refine (cm.out wr (Ow.rd oA.out) (Ow.rd oB.out)).mono ?_
          rintro e w2 ⟨z, rfl, hz, h1, h2, rfl⟩
          dsimp only
          obtain ⟨a, b, m1, m2, m3, m4, m5⟩ := hmk.out z hz h1 h2
          have r1 := fun W ty => run_float_arith (P := Tryd.prog) W .sub ty .f64 (floatOfInt .f64 lo) 4562254508917369340 a m1
          have r2 := fun W ty => run_float_arith (P := Tryd.prog) W .add ty .f64 (floatOfInt .f64 hi) 4562254508917369340 b m2
          by_cases hlh : lo = hi
          · have m6 := m5 hlh
            rw [← ofI_eq] at m6
            subst hlh
            replace m1 := Lib.hid m1
            replace m2 := Lib.hid m2
            replace m5 := Lib.hid m5
            replace hz := Lib.hid hz
            replace h1 := Lib.hid h1
            replace h2 := Lib.hid h2
            go_wp2_with fail
            go_ret
            exact ⟨rfl, hmr.out.below0⟩
          · replace m1 := Lib.hid m1
            replace m2 := Lib.hid m2
            replace m5 := Lib.hid m5
            replace hz := Lib.hid hz
            replace h1 := Lib.hid h1
            replace h2 := Lib.hid h2
            go_wp2_with fail
            go_ret
            exact ⟨rfl, hmr.out.below0⟩
end Go.Proofs.YtlikknamliamiaaDoor
