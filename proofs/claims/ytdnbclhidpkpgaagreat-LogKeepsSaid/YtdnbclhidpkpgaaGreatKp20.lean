import Derived.Test.YtdnbclhidpkpgaaGreatKp18
import Derived.Test.YtdnbclhidpkpgaaGreatKp19
/-
  LogKeeps' walk. No condition.
-/
namespace Go.Proofs.YtdnbclhidpkpgaaGreat
set_option linter.unusedVariables false
set_option linter.unusedSimpArgs false
open Go.RowKit
theorem appRg {w : World} {ops : Array Oper} {rest : List Oper} {o : Oper} {a : Act} {Q : Exit → Act → World → Prop} (hw : Region.wanted o (yielded ops a.tmps) = true) (s x : Operand)
    (ho : o.op = .call { callee := .builtin .append, args := #[s, x], argTypes := #[41, 41] })
    {A : Option Addr} {n c : Nat} {xs : List Rs} (hs : a.eval s = .slice A n c) (hown : OwR w A n c xs)
    {S : Option Addr} {m d : Nat} {news : List Rs} (hx : a.eval x = .slice S m d) (hr : RdR w S m news) (hb : (n + m) * 192 ≤ 140737488355328)
    (h : ∀ A' c' w', OwR w' A' (n + m) c' (xs ++ news) → Mod (fp A) w w' → (A' = A ∨ A' = some ⟨w.heap.size, 0, none⟩) → wpList Tryz.prog ops Q rest (a.put o.dst (.slice A' (n + m) c')) w') : wpList Tryz.prog ops Q (o :: rest) a w := by
  obtain ⟨i0, hi, hz0, hz1, hz2⟩ := info_parts rcinfo
  refine wpList_append_owg hw s x 41 ho 37 i0 _ 17 192 Tryz.underlying41 hi hz0 hz1 hz2 rfl (by omega) A n c (rss xs) hs hown S m d (rss news) hx hr (rss_one _) (by omega) (by omega) ?_
  intro A' c' w' h1
  rw [← rss_append] at h1
  exact h A' c' w' h1
theorem umod_nat (x : Int) (m : Nat) (h0 : 0 < m) (h1 : m ≤ 1000000) : ∃ k : Nat, k < m ∧ wrap64 ((IntKind.u64.wrap x).tmod (m : Int)) = (k : Int) ∧ (IntKind.u64.wrap x).tmod (m : Int) = (k : Int) := by
  have hx := (wrap_u64_lt x).1
  generalize IntKind.u64.wrap x = q at hx
  have e : q.tmod m = q % m := Int.tmod_eq_emod_of_nonneg hx
  have l1 := Int.emod_nonneg q (b := m) (by omega)
  have l2 := Int.emod_lt_of_pos q (b := m) (by omega)
  refine ⟨(q % m).toNat, by omega, ?_, ?_⟩
  · rw [e, IntWalk.wrap64_in _ ⟨by omega, by omega⟩]
    omega
  · rw [e]; omega
/-- a disk that is new since w, with its log -/
structure LgSt (w W : World) (p : Nat) (A : Option Addr) (c : Nat) (l : List UInt8) (s K : Nat) : Prop where
  dk : Dk W p A c ⟨l, s, K, false⟩
  mod : Mod none_ w W
  np : w.heap.size ≤ p
  na : ∀ k, fp A k → w.heap.size ≤ k
theorem LgSt.mod0 {w W W' : World} {p : Nat} {A : Option Addr} {c : Nat} {l : List UInt8} {s K : Nat} (h : LgSt w W p A c l s K) (hm : Mod none_ W W') : LgSt w W' p A c l s K := ⟨h.dk.mod0 hm, h.mod.trans hm, h.np, h.na⟩
theorem LgSt.step {w W W' : World} {p : Nat} {A A' : Option Addr} {c c' : Nat} {l l' : List UInt8} {s s' K : Nat} (h : LgSt w W p A c l s K) (hd : Dk W' p A' c' ⟨l', s', K, false⟩) (hn : Nw W A A') (hm : Mod (dkf p A) W W') : LgSt w W' p A' c' l' s' K :=
  ⟨hd, h.mod.then hm (fun i hi hk => by
    rcases hk with hk | hk
    · have := h.np; omega
    · have := h.na i hk; omega), h.np, fun k hk => by
    rcases hn with rfl | hn
    · exact h.na k hk
    · obtain ⟨a, ha, rfl⟩ := hk; exact Nat.le_trans h.mod.size (hn a ha)⟩
theorem LgSt.modstep {w W W' : World} {p : Nat} {A : Option Addr} {c : Nat} {l : List UInt8} {s K : Nat} (h : LgSt w W p A c l s K) (hm : Mod (dkf p A) W W') : Mod none_ w W' := h.mod.then hm (fun i hi hk => by
    rcases hk with hk | hk
    · have := h.np; omega
    · have := h.na i hk; omega)
theorem RsL.app {w : World} {A B C : Option Addr} {n m k : Nat} {xs ys : List Rs} (hx : RsL w A n xs) (hy : RsL w B m ys) (hr : RdR w C k (xs ++ ys)) : RsL w C k (xs ++ ys) :=
  ⟨hr, fun x h => (List.mem_append.1 h).elim (hx.mem x) (hy.mem x), fun x h => (List.mem_append.1 h).elim (hx.ok x) (hy.ok x), fun x h => (List.mem_append.1 h).elim (hx.nums x) (hy.nums x)⟩
theorem RsL.take {w : World} {A C : Option Addr} {n k : Nat} {xs : List Rs} (hx : RsL w A n xs) {j : Nat} (hr : RdR w C k (xs.take j)) : RsL w C k (xs.take j) :=
  ⟨hr, fun x h => hx.mem x (List.mem_of_mem_take h), fun x h => hx.ok x (List.mem_of_mem_take h), fun x h => hx.nums x (List.mem_of_mem_take h)⟩
theorem OwR.none_ (w : World) : OwR w none 0 0 [] := Ow.nil _ _ _
/-- two rows onto a row that isn't there -/
theorem two_apps {w w1 w2 : World} {A A' : Option Addr} (hm : Mod (fp none) w w1) (hA : A = none ∨ A = some ⟨w.heap.size, 0, none⟩) (hm2 : Mod (fp A) w1 w2) : Mod none_ w w2 := hm.then_own hA hm2
theorem nw_apart {w : World} {p q d : Nat} {A A' B : Option Addr} {D : DS} (hn : Nw w A A') (hap : ∀ k, dkf q B k → ¬ dkf p A k) (hD : Dk w q B d D) : ∀ k, dkf q B k → ¬ dkf p A' k := by
  intro k hk hk'
  rcases hk' with rfl | hk'
  · exact hap k hk (.inl rfl)
  · rcases hn with rfl | hf
    · exact hap k hk (.inr hk')
    · obtain ⟨a, ha, rfl⟩ := hk'
      have := hf a ha
      have := hD.lt _ hk
      omega
theorem putR_all {l : List UInt8} {s r : Nat} {xs : List Rs} (h : ∀ x ∈ xs, RtR x = true) (hs : s = l.length) (hf : l.length + (logB xs).length ≤ r) : putR l s r xs = (0, l ++ logB xs, l.length + (logB xs).length) := by
  unfold putR
  rw [if_pos (by rw [List.all_eq_true]; exact h)]
  by_cases h0 : xs = []
  · rw [if_pos h0, h0, hs]; simp [logB, recsB]
  · rw [if_neg h0, if_pos hf]
theorem RsL.filt {w : World} {A : Option Addr} {m c : Nat} {xs : List Rs} (h : ∀ x ∈ xs, EnM w x.r.e x.L x.D ∧ RsOk x ∧ numsE x.r.e) (ho : OwR w A m c (xs.filter RtR)) : RsL w A m (xs.filter RtR) :=
  ⟨ho.rd, fun x hx => (h x (List.mem_filter.1 hx).1).1, fun x hx => (h x (List.mem_filter.1 hx).1).2.1, fun x hx => (h x (List.mem_filter.1 hx).1).2.2⟩
theorem cut_tx {x : Rs} (h : RsTx x) : RsTx (cutR x) := h
theorem fewL_tx {xs : List Rs} (h : ∀ x ∈ xs, RsTx x) (n : Nat) : ∀ y ∈ fewL xs n, RsTx y := fun y hy => by
  obtain ⟨x, hx, rfl⟩ := fewL_mem hy
  exact cut_tx (h x hx)
theorem fewL_len (xs : List Rs) : (fewL xs 20).length ≤ 20 := by unfold fewL; simp; omega
/-- few, then right -/
theorem few_right (w : World) (A : Option Addr) (N c : Nat) (xs : List Rs) (h : RsL w A N xs) (ht : ∀ x ∈ xs, RsTx x) (hN : N ≤ 140737488355328) {R : Ending → World → Prop}
    (hR : ∀ A2 m2 c2 w2, Mod none_ w w2 → Calls Tryz.prog 28 #[.slice A2 m2 c2] w2 (fun e w' => ∃ A' m c', e = .returned (.slice A' m c') ∧ RsL w' A' m ((fewL xs 20).filter RtR) ∧ m ≤ c' ∧ Fresh w A' ∧ Mod none_ w w') → R (.returned (.slice A2 m2 c2)) w2) :
    Calls Tryz.prog 15 #[.slice A N c] w R := by
  refine (few_ok w A N c xs h.rd h.mem h.ok hN).mono ?_
  rintro e w2 ⟨A2, m2, c2, rfl, ho2, hf2, hm2⟩
  refine hR A2 m2 c2 w2 hm2 ?_
  have hY := fewL_rs (h.mem.mod0 hm2) h.ok h.nums 20 ho2.rd
  have hl2 : m2 ≤ 20 := by
    have h1 := ho2.len
    have h2 := fewL_len xs
    omega
  refine (lright_ok w2 A2 m2 c2 _ hY (fewL_tx ht 20) (by omega)).mono ?_
  rintro e w3 ⟨A3, m3, c3, rfl, ho3, hf3, hm3⟩
  exact ⟨A3, m3, c3, rfl, RsL.filt (fun x hx => ⟨(hY.mem x hx).mod0 hm3, hY.ok x hx, hY.nums x hx⟩) ho3, ho3.2.1, fun a ha => Nat.le_trans hm2.size (hf3 a ha), hm2.trans hm3⟩
theorem spoil_eq {l T : List UInt8} {s keep : Nat} (hs : s = l.length) (hk : keep ≤ T.length) (x : Int) (c : UInt8) :
    ∃ p, (spoils_ s keep (l ++ T) [(x, c)]).take (s + keep) = l ++ (T.set p c).take keep := by
  subst hs
  unfold spoils_ spoil1
  simp only [List.foldl_cons, List.foldl_nil]
  by_cases h : 0 ≤ x ∧ x < (keep : Int)
  · rw [if_pos h]
    refine ⟨x.toNat, ?_⟩
    rw [List.set_append_right _ _ (by omega), show l.length + x.toNat - l.length = x.toNat by omega, List.take_append, List.take_of_length_le (by omega), show l.length + keep - l.length = keep by omega]
  · rw [if_neg h]
    refine ⟨T.length, ?_⟩
    rw [List.set_eq_of_length_le (Nat.le_refl _), List.take_append, List.take_of_length_le (by omega), show l.length + keep - l.length = keep by omega]
set_option maxRecDepth 100000 in
set_option maxHeartbeats 8000000 in
theorem logKeeps_walk (w : World) (A : Option Addr) (N c : Nat) (xs : List Rs) (h : RsL w A N xs) (ht : ∀ x ∈ xs, RsTx x) (hN : N ≤ 140737488355328) (B : Option Addr) (M d : Nat) (ys : List Rs) (h' : RsL w B M ys) (ht' : ∀ x ∈ ys, RsTx x) (hM : M ≤ 140737488355328) (at0 at1 : Int) :
    Calls Tryz.prog 8 #[.slice A N c, .slice B M d, .agg #[.int .i64 at0, .int .i64 at1]] w fun e w' => e = .returned (.bool true) ∧ Mod none_ w w' := by
  have hb0 := Lib.hid (Blk.new w 60 #[.int .i64 at0, .int .i64 at1])
  have hm0 := Lib.hid ((Mod.refl none_ w).alloc (.cells #[.int .i64 at0, .int .i64 at1] 60))
  replace h := Lib.hid h
  replace h' := Lib.hid h'
  replace ht := Lib.hid ht
  replace ht' := Lib.hid ht'
  go_enter Tryz.func8, Tryz.ntmps8
  go_wp2_with fail
  refine (lives_ok _).mono ?_
  rintro e w1 ⟨rfl, hm1⟩
  dsimp only
  have hM1 := Lib.hid (hm0.out.trans hm1)
  have hb1 := Lib.hid (hb0.out.mod hm1 (fun h => h))
  have kF := Lib.hid (fun R => few_right w1 A N c xs (h.out.mod0 hM1.out) ht.out hN (R := R))
  clear hm1 hb0 hm0
  go_wp2_with fail
  refine kF.out _ ?_
  intro A2 m2 c2 w2 hm2 kR
  dsimp only
  replace kR := Lib.hid kR
  clear hm2 kF
  go_wp2_with fail
  refine kR.out.mono ?_
  rintro e w3 ⟨A3, m3, c3, rfl, hX, hmc3, hf3, hm3⟩
  dsimp only
  clear kR
  have hM3 := Lib.hid (hM1.out.trans hm3)
  have hb3 := Lib.hid (hb1.out.mod hm3 (fun h => h))
  have kF := Lib.hid (fun R => few_right w3 B M d ys (h'.out.mod0 hM3.out) ht'.out hM (R := R))
  have hXl := fewL_len xs
  have hXr : ∀ x ∈ (fewL xs 20).filter RtR, RtR x = true := fun x hx => (List.mem_filter.1 hx).2
  have hXl2 : ((fewL xs 20).filter RtR).length ≤ 20 := Nat.le_trans (List.length_filter_le _ _) hXl
  generalize (fewL xs 20).filter RtR = xa at *
  clear hm3 hb1 hM1 hf3 hXl
  replace hX := Lib.hid hX
  replace hXr := Lib.hid hXr
  go_wp2_with fail
  refine kF.out _ ?_
  intro A4 m4 c4 w4 hm4 kR
  dsimp only
  replace kR := Lib.hid kR
  clear hm4 kF
  go_wp2_with fail
  refine kR.out.mono ?_
  rintro e w5 ⟨A5, m5, c5, rfl, hY, hmc5, hf5, hm5⟩
  dsimp only
  clear kR
  have hM5 := Lib.hid (hM3.out.trans hm5)
  have hb5 := Lib.hid (hb3.out.mod hm5 (fun h => h))
  have hX5 := Lib.hid (hX.out.mod0 hm5)
  have hYl := fewL_len ys
  have hYr : ∀ x ∈ (fewL ys 20).filter RtR, RtR x = true := fun x hx => (List.mem_filter.1 hx).2
  have hYl2 : ((fewL ys 20).filter RtR).length ≤ 20 := Nat.le_trans (List.length_filter_le _ _) hYl
  generalize (fewL ys 20).filter RtR = xb at *
  have hLa := logB_short xa hXr.out hX5.out.nums
  have hLb := logB_short xb hYr hY.nums
  obtain ⟨La, hLae⟩ : ∃ La, La = (logB xa).length := ⟨_, rfl⟩
  obtain ⟨Lb, hLbe⟩ : ∃ Lb, Lb = (logB xb).length := ⟨_, rfl⟩
  rw [← hLae] at hLa
  rw [← hLbe] at hLb
  have hm3l : m3 ≤ 20 := by have := hX5.out.len; omega
  have hm5l : m5 ≤ 20 := by have := hY.len; omega
  have hLa2 : La ≤ 21120 := by omega
  have hLb2 : Lb ≤ 21120 := by omega
  clear hm5 hb3 hM3 hf5 hYl hX hLa hLb
  replace hY := Lib.hid hY
  replace hYr := Lib.hid hYr
  replace hLae := Lib.hid hLae
  replace hLbe := Lib.hid hLbe
  go_wp2_with fail
  with_reducible refine (disk_new 65536 w5).mono ?_
  rintro e w6 ⟨rfl, hd6, hm6⟩
  dsimp only
  have hp6 : w5.heap.size < w6.heap.size := hd6.lt _ (.inl rfl)
  generalize hpe : w5.heap.size = p at *
  replace hd6 := Lib.hid hd6
  replace hm6 := Lib.hid hm6
  replace hpe := Lib.hid hpe
  go_wp2_with fail
  with_reducible refine (disk_new 65536 w6).mono ?_
  rintro e w7 ⟨rfl, hd7, hm7⟩
  dsimp only
  have hd67 := hd6.out.mod0 hm7
  have hap0 : ∀ k, dkf w6.heap.size none k → ¬ dkf p none k := by
    intro k hk hk'
    rcases hk with hk | ⟨a, ha, _⟩
    · rcases hk' with hk' | ⟨a, ha, _⟩
      · omega
      · cases ha
    · cases ha
  have hM57 := hm6.out.trans hm7
  have hr : (min (max (65536 : Int) 0) 65536).toNat = 65536 := by decide
  rw [hr] at hd67 hd7
  have hq5 : w5.heap.size ≤ w6.heap.size := hm6.out.size
  generalize w6.heap.size = q at *
  have st1 : LgSt w5 w7 p none 0 [] 0 65536 := ⟨hd67, hM57, by rw [hpe.out]; exact Nat.le_refl _, fun k hk => by obtain ⟨a, ha, _⟩ := hk; cases ha⟩
  have st2 : LgSt w5 w7 q none 0 [] 0 65536 := ⟨hd7, hM57, hq5, fun k hk => by obtain ⟨a, ha, _⟩ := hk; cases ha⟩
  clear hd6 hm6 hm7 hd7 hd67 hr hM57 hp6
  have kP := put_ok w7 p none 0 [] 0 65536 st1.dk A3 m3 c3 xa (hX5.out.mod0 st1.mod) (by omega)
  rw [putR_all (l := []) (s := 0) hXr.out rfl (by rw [← hLae.out]; simp; omega)] at kP
  replace st1 := Lib.hid st1
  replace st2 := Lib.hid st2
  replace hap0 := Lib.hid hap0
  replace hq5 := Lib.hid hq5
  replace kP := Lib.hid kP
  go_wp2_with fail
  refine kP.out.mono ?_
  rintro e w8 ⟨A8, c8, a8, l8, s8, rfl, he8, hd8, hn8, hm8⟩
  simp only [Prod.mk.injEq, List.nil_append, List.length_nil, Nat.zero_add] at he8
  obtain ⟨rfl, rfl, rfl⟩ := he8
  dsimp only
  have st8 := st1.out.step hd8 hn8 hm8
  have hq8 := st2.out.dk.mod hm8 hap0.out
  have hap8 := nw_apart hn8 hap0.out st2.out.dk
  have sq8 : LgSt w5 w8 q none 0 [] 0 65536 := ⟨hq8, st8.mod, st2.out.np, st2.out.na⟩
  clear kP hn8 hm8 hd8 st1 st2 hap0 hq8
  have kP := put_ok w8 q none 0 [] 0 65536 sq8.dk A5 m5 c5 xb (hY.out.mod0 sq8.mod) (by omega)
  rw [putR_all (l := []) (s := 0) hYr.out rfl (by rw [← hLbe.out]; simp; omega)] at kP
  replace st8 := Lib.hid st8
  replace sq8 := Lib.hid sq8
  replace hap8 := Lib.hid hap8
  replace kP := Lib.hid kP
  go_wp2_with fail
  refine kP.out.mono ?_
  rintro e w9 ⟨A9, c9, a9, l9, s9, rfl, he9, hd9, hn9, hm9⟩
  simp only [Prod.mk.injEq, List.nil_append, List.length_nil, Nat.zero_add] at he9
  obtain ⟨rfl, rfl, rfl⟩ := he9
  dsimp only
  have sq9 := sq8.out.step hd9 hn9 hm9
  have hap8' : ∀ k, dkf p A8 k → ¬ dkf q none k := fun k hk hk' => hap8.out k hk' hk
  have hp9 := st8.out.dk.mod hm9 hap8'
  have st9 : LgSt w5 w9 p A8 c8 (logB xa) (logB xa).length 65536 := ⟨hp9, sq9.mod, st8.out.np, st8.out.na⟩
  clear kP hn9 hm9 hd9 st8 sq8 hap8 hap8' hp9
  have kB := disk_bytes p A8 c8 w9 _ st9.dk
  dsimp only at kB
  rw [← hLae.out] at kB
  replace kB := Lib.hid kB
  replace st9 := Lib.hid st9
  replace sq9 := Lib.hid sq9
  go_wp2_with fail
  refine kB.out.mono ?_
  rintro e w10 ⟨A10, c10, rfl, -, -, hm10⟩
  dsimp only
  have st10 := Lib.hid (st9.out.mod0 hm10)
  have kB := disk_bytes q A9 c9 w10 _ (sq9.out.dk.mod0 hm10)
  dsimp only at kB
  rw [← hLbe.out] at kB
  clear hm10 st9 sq9
  replace kB := Lib.hid kB
  go_wp2_with fail
  refine kB.out.mono ?_
  rintro e w11 ⟨A11, c11, rfl, ho11, -, hm11⟩
  dsimp only
  have st11 := Lib.hid (st10.out.mod0 hm11)
  have kA := Lib.hid (disk_append p A8 c8 _ _ 65536 w11 st11.out.dk A11 Lb c11 (logB xb) ho11.rd (by rw [← hLae.out]; omega))
  clear hm11 st10 ho11 kB
  go_wp2_with fail
  refine kA.out.mono ?_
  rintro e w12 ⟨rfl, A12, ⟨c12, hd12⟩, hn12, hm12⟩
  dsimp only
  have st12 := Lib.hid (st11.out.step hd12 hn12 hm12)
  have hbx := hb5
  have hb12 := Lib.hid (hb5.out.mod st12.out.mod (fun h => h))
  have e0 : w12.cell? ⟨w.heap.size, 0, none⟩ = some (.int .i64 at0) := hb12.out.cell_ rfl
  clear kA hd12 hn12 hm12 st11
  obtain ⟨K, hK, u1, u2⟩ := umod_nat at0 (Lb + 1) (by omega) (by omega)
  rw [show ((Lb + 1 : Nat) : Int) = (Lb : Int) + 1 by omega] at u1 u2
  clear hb5 hb12
  go_wp2_with fail
  clear e0 u1 u2
  have hb12 := Lib.hid (hbx.out.mod st12.out.mod (fun h => h))
  have kB := Lib.hid (disk_break p A12 c12 _ w12 st12.out.dk)
  refine kB.out.mono ?_
  rintro e w13 ⟨rfl, hd13, hm13⟩
  dsimp only
  have hM13 := Lib.hid (st12.out.modstep hm13)
  have hnp := Lib.hid st12.out.np
  have hna := Lib.hid st12.out.na
  have hall : xb.all RtR = true := by rw [List.all_eq_true]; exact hYr.out
  have hnil : (xb = [] ∧ m5 = 0) ∨ (xb ≠ [] ∧ 0 < m5) := by
    have h1 := hY.out.len
    by_cases h0 : xb = []
    · exact .inl ⟨h0, by rw [h0] at h1; exact h1.symm⟩
    · refine .inr ⟨h0, ?_⟩
      rcases Nat.eq_zero_or_pos m5 with h2 | h2
      · exact absurd (List.eq_nil_of_length_eq_zero (by omega)) h0
      · exact h2
  have kP := put_down w13 (.pointer (some ⟨p, 0, none⟩)) (.inr ⟨p, A12, c12, _, _, _, rfl, hd13⟩) A5 m5 c5 xb (hY.out.mod0 hM13.out) (by omega)
  rw [if_pos hall] at kP
  replace hd13 := Lib.hid hd13
  replace kP := Lib.hid kP
  clear hm13 kB st12 hall
  go_upto_region 13 with fail
  go_cut [67] from 59 (fun v wx => v = .bool false ∧ Mod none_ w13 wx)
  case first =>
    go_wp2_with fail
    refine kP.out.mono ?_
    rintro e w14 ⟨rfl, hm14⟩
    dsimp only
    replace hm14 := Lib.hid hm14
    rcases hnil with ⟨h0, rfl⟩ | ⟨h0, h1⟩
    · rw [if_pos h0]
      replace h0 := Lib.hid h0
      go_wp2_with fail
      all_goals go_meet
      exact ⟨rfl, hm14.out⟩
    · rw [if_neg h0]
      replace h0 := Lib.hid h0
      go_wp2_with fail
      all_goals go_meet
      exact ⟨rfl, hm14.out⟩
  case rest =>
  obtain ⟨rfl, hm14⟩ := hcut
  have hd14 := Lib.hid (hd13.out.mod0 hm14)
  have hM14 := Lib.hid (hM13.out.trans hm14)
  have hb14 := Lib.hid (hbx.out.mod hM14.out (fun h => h))
  have e1 : wc.cell? ⟨w.heap.size, 1, none⟩ = some (.int .i64 at1) := hb14.out.cell_ rfl
  clear hm14 kP hd13 hM13
  go_wp2_with fail
  -- Up
  have hspo : Hid (Rd (wc.alloc (.cells #[.int .i64 at1, .int .u8 170] 64)) 2 (some ⟨wc.heap.size, 0, none⟩) 1 (spv [(at1, 170)])) := Lib.hid (rdn wc 64 2 1 _ #[.int .i64 at1, .int .u8 170] (0, 0) rfl rfl)
  have hd14' := hd14.out.mod0 ((Mod.refl none_ wc).alloc (.cells #[.int .i64 at1, .int .u8 170] 64))
  have hdlt := Lib.hid hd14.out.lt
  have kU := disk_up p A12 c12 _ _ 65536 _ true hd14' (K : Int) (some ⟨wc.heap.size, 0, none⟩) 1 1 [(at1, 170)] hspo.out (fun i hi hk => by
    obtain ⟨a, ha, rfl⟩ := hi; cases ha; have := hdlt.out _ hk; dsimp only at this; omega) (by omega)
  have hkeep : upKeep (logB xa ++ logB xb) (logB xa).length (K : Int) = K := by
    unfold upKeep
    rw [List.length_append]
    have := hLbe.out
    omega
  rw [hkeep] at kU
  obtain ⟨pp, hpp⟩ := spoil_eq (l := logB xa) (T := logB xb) (s := (logB xa).length) (keep := K) rfl (by have := hLbe.out; omega) at1 170
  rw [hpp] at kU
  obtain ⟨ys1, zs1, hyz, hscan, htake⟩ := log_spoilt xb hYr.out hY.out.nums pp 170 K
  obtain ⟨T, hT⟩ : ∃ T, T = ((logB xb).set pp 170).take K := ⟨_, rfl⟩
  rw [← hT] at kU hscan htake
  have hTl : T.length ≤ Lb := by rw [hT, List.length_take, List.length_set]; have := hLbe.out; omega
  have hscan2 : logScan (logB xa ++ T) = ((xa ++ ys1).map (·.r), La + (logB ys1).length) := by
    rw [logScan_of xa hXr.out hX5.out.nums, hscan, List.map_append, ← hLae.out]
  have hys1 : (logB ys1).length ≤ Lb := by
    have := hLbe.out; rw [hyz, logB_append, List.length_append] at this; omega
  obtain ⟨N1, hN1⟩ : ∃ N1, N1 = (logB ys1).length := ⟨_, rfl⟩
  rw [← hN1] at hscan2 htake hys1
  have hlen1 : N1 ≤ T.length := by
    have := congrArg List.length htake
    rw [List.length_take, ← hN1] at this; omega
  have htk2 : (logB xa ++ T).take (La + N1) = logB (xa ++ ys1) := by
    rw [logB_append, List.take_append, List.take_of_length_le (by have := hLae.out; omega), ← hLae.out, show La + N1 - La = N1 by omega, htake]
  have hM14' := Lib.hid (hM14.out.alloc (.cells #[.int .i64 at1, .int .u8 170] 64))
  obtain ⟨LT, hLT⟩ : ∃ LT, LT = T.length := ⟨_, rfl⟩
  rw [← hLT] at hTl hlen1
  clear hpp hkeep hd14' hd14 hM14 hb14 hT htake hscan e1
  replace hyz := Lib.hid hyz
  replace hscan2 := Lib.hid hscan2
  replace htk2 := Lib.hid htk2
  replace kU := Lib.hid kU
  replace hN1 := Lib.hid hN1
  replace hLT := Lib.hid hLT
  refine kU.out.mono ?_
  rintro e w15 ⟨rfl, hd15, hm15⟩
  dsimp only
  have hM15 : Mod none_ w5 w15 := hM14'.out.then hm15 (fun i hi hk => by
    rcases hk with hk | hk
    · have := hnp.out; omega
    · have := hna.out i hk; omega)
  obtain ⟨Lk, hLk⟩ : ∃ Lk, Lk = (logB xa).length + K := ⟨_, rfl⟩
  rw [← hLk] at hd15
  have st15 : LgSt w5 w15 p A12 c12 (logB xa ++ T) Lk 65536 := ⟨hd15, hM15, hnp.out, hna.out⟩
  clear hd15 hm15 hM15 hM14' kU hdlt hspo
  have kB := disk_bytes p A12 c12 w15 _ st15.dk
  dsimp only at kB
  have hLL : (logB xa ++ T).length = La + LT := by rw [List.length_append, ← hLae.out, ← hLT.out]
  rw [hLL] at kB
  obtain ⟨D1, hD1⟩ : ∃ D1, D1 = logB xa ++ T := ⟨_, rfl⟩
  rw [← hD1] at kB hLL hscan2 htk2 st15
  clear hLk
  replace kB := Lib.hid kB
  replace st15 := Lib.hid st15
  replace hLL := Lib.hid hLL
  replace hD1 := Lib.hid hD1
  go_wp2_with fail
  refine kB.out.mono ?_
  rintro e w16 ⟨A16, c16, rfl, ho16, hf16, hm16⟩
  dsimp only
  have st16 := Lib.hid (st15.out.mod0 hm16)
  have hdlt16 := Lib.hid st16.out.dk.lt
  have hlc : La + LT ≤ c16 := ho16.2.1
  have hcm : c16 ≤ maxLen := ho16.2.2.1
  have hcl : c16 ≤ 9223372036854775807 := by unfold maxLen at hcm; omega
  have kS := logScan_ok w16 A16 (La + LT) c16 D1 ho16.rd hlc hcl (by omega)
  unfold LScanPost at kS
  rw [hscan2.out] at kS
  clear ho16 hf16 hm16 st15 kB hcm
  replace kS := Lib.hid kS
  go_wp2_with fail
  refine kS.out.mono ?_
  rintro e w17 ⟨A17, n17, c17, xs1, rfl, hN17, hxr1, hm17⟩
  dsimp only at hxr1 ⊢
  have st17 := Lib.hid (st16.out.mod0 hm17)
  have hn17 : n17 = m3 + ys1.length := by
    have h1 := hN17.len
    have h2 := congrArg List.length hxr1
    have h3 := hX5.out.len
    simp only [List.length_map, List.length_append] at h2
    omega
  have hyl : ys1.length ≤ m5 := by
    have h1 := hY.out.len
    rw [hyz.out, List.length_append] at h1; omega
  obtain ⟨y1, hy1⟩ : ∃ y1, y1 = ys1.length := ⟨_, rfl⟩
  rw [← hy1] at hn17 hyl
  have hn17b : n17 ≤ m3 + m5 := by omega
  have c1 : ¬ ((n17 : Int) < (m3 : Int)) := by omega
  have c2 : ¬ ((m3 : Int) + (m5 : Int) < (n17 : Int)) := by omega
  have c3 : ¬ ((La : Int) + (N1 : Int) < (La : Int)) := by omega
  have c4 : ¬ (((La + N1 : Nat) : Int) < (La : Int)) := by omega
  have hX17 := Lib.hid (hX5.out.mod0 st17.out.mod)
  have hY17 := Lib.hid (hY.out.mod0 st17.out.mod)
  have hinI : ∀ x ∈ xs1, inI x.r.i := fun x hx => logScan_in (l := D1) (by rw [hscan2.out, ← hxr1]; exact List.mem_map.2 ⟨x, hx, rfl⟩)
  clear hm17 st16 kS hlc hcl
  replace hN17 := Lib.hid hN17
  replace hxr1 := Lib.hid hxr1
  replace hn17 := Lib.hid hn17
  replace hy1 := Lib.hid hy1
  replace hinI := Lib.hid hinI
  go_wp2_with (first
    | (show wpList _ _ _ (⟨some 104, _, _, _, _, _⟩ :: _) _ _; go_loud (refine appRg (by rfl) (.const (.slice none 0 0)) (.tmp 103) rfl rfl (OwR.none_ _) rfl hX17.out.rd (by omega) ?_; intro A18 c18 w18 ho18 hm18 hA18; rw [Nat.zero_add, List.nil_append] at ho18; replace ho18 := Lib.hid ho18; replace hm18 := Lib.hid hm18; replace hA18 := Lib.hid hA18))
    | (show wpList _ _ _ (⟨some 106, _, _, _, _, _⟩ :: _) _ _; go_loud (refine appRg (by rfl) (.tmp 104) (.tmp 105) rfl rfl ho18.out rfl (Rd.mod0 hY17.out.rd hm18.out.nil_own) (by omega) ?_; intro A19 c19 w19 ho19 hm19 hA19; have hc19 : n17 ≤ c19 := Nat.le_trans hn17b ho19.2.1; replace ho19 := Lib.hid ho19; replace hm19 := Lib.hid hm19; replace hA19 := Lib.hid hA19)))
  have hmm19 := hm18.out.then_own hA18.out hm19.out
  have htk19 : (xa ++ xb).take n17 = xa ++ ys1 := by
    have h3 := hX5.out.len
    rw [hn17.out, ← h3, List.take_append, List.take_of_length_le (by omega), show xa.length + y1 - xa.length = y1 by omega, hyz.out, hy1.out, List.take_left]
  have hS19 : RsL w19 A19 n17 ((xa ++ xb).take n17) := RsL.take (RsL.app (hX17.out.mod0 hmm19) (hY17.out.mod0 hmm19) ho19.out.rd) (rdR_take ho19.out.rd hn17b)
  have kE := Lib.hid (same15_eq w19 A17 A19 n17 n17 c17 c19 xs1 _ ((hN17.out.mod0 hmm19).list) hS19 (by rw [hxr1.out, htk19]) (by omega))
  have st19 := Lib.hid (st17.out.mod0 hmm19)
  have hN19 := Lib.hid (hN17.out.mod0 hmm19)
  clear hS19 hmm19 hm18 hA18 hm19 hA19 ho18 ho19 htk19 c1 c2 c3 c4
  refine kE.out.mono ?_
  rintro e w20 ⟨rfl, hm20⟩
  dsimp only
  have st20 := Lib.hid (st19.out.mod0 hm20)
  have hN20 := Lib.hid (hN19.out.mod0 hm20)
  clear hm20 kE st19 hN19 hN17 st17 hX17 hY17
  -- Trim
  have kT := trim_ok w20 p A12 c12 D1 Lk 65536 st20.out.dk (by rw [hscan2.out, hLL.out]; dsimp only; omega)
  rw [hscan2.out] at kT
  dsimp only at kT
  rw [htk2.out] at kT
  have hlt20 := Lib.hid st20.out.dk.lt
  have hap20 := Lib.hid (show ∀ k, dkf p A12 k → k < w16.heap.size from hdlt16.out)
  replace kT := Lib.hid kT
  go_wp2_with fail
  refine kT.out.mono ?_
  rintro e w21 ⟨A21, n21, c21, xs2, zs2, rfl, hxr2, hLO2, ho21, hM21, hok21, hfar21, hf21, hd21, hm21⟩
  dsimp only
  have hMd21 := st20.out.modstep hm21
  have hN21 := Lib.hid (hN20.out.modB hm21 hap20.out)
  have hNw : Nw w20 A12 A12 := .inl rfl
  have st21 := st20.out.step hd21 hNw hm21
  have hl2 := lastOf_len hLO2
  clear hm21 hd21 hN20 kT hNw hMd21
  replace hLO2 := Lib.hid hLO2
  replace ho21 := Lib.hid ho21
  replace hM21 := Lib.hid hM21
  replace hok21 := Lib.hid hok21
  replace hfar21 := Lib.hid hfar21
  replace hf21 := Lib.hid hf21
  -- Put behind it
  have hsz2 : (logB (xa ++ ys1)).length = La + N1 := by rw [logB_append, List.length_append, ← hLae.out, ← hN1.out]
  have kP := put_ok w21 p A12 (La + N1) (logB (xa ++ ys1)) (La + N1) 65536 st21.dk A5 m5 c5 xb (hY.out.mod0 st21.mod) (by omega)
  rw [putR_all (l := logB (xa ++ ys1)) (s := La + N1) hYr.out hsz2.symm (by have h8 := hLbe.out; have h7 := hsz2; omega)] at kP
  rw [← logB_append, hsz2, ← hLbe.out] at kP
  have hlt21 := Lib.hid st21.dk.lt
  replace kP := Lib.hid kP
  replace st21 := Lib.hid st21
  replace hsz2 := Lib.hid hsz2
  go_wp2_with fail
  refine kP.out.mono ?_
  rintro e w22 ⟨A22, c22, a22, l22, s22, rfl, he22, hd22, hn22, hm22⟩
  simp only [Prod.mk.injEq] at he22
  obtain ⟨rfl, rfl, rfl⟩ := he22
  dsimp only
  have st22 := Lib.hid (st21.out.step hd22 hn22 hm22)
  have hN22 := Lib.hid (hN21.out.modB hm22 hap20.out)
  have hfr21 : ∀ k, fp A21 k → ¬ dkf p A12 k := fun k hk hd => by
    obtain ⟨a, ha, rfl⟩ := hk
    have := hf21.out a ha
    have := hlt20.out _ hd
    omega
  have ho22 := Lib.hid (ho21.out.mod hm22 hfr21)
  have hM22 := Lib.hid (hM21.out.mod (fun y hy => (hfar21.out y hy).mono (fun k hk => hlt20.out k hk)) hm22)
  clear hm22 hd22 hn22 kP st21 hN21 ho21 hM21 hfr21 hfar21 hlt21
  have kB := disk_bytes p A22 c22 w22 _ st22.out.dk
  dsimp only at kB
  have hLL2 : (logB (xa ++ ys1 ++ xb)).length = La + N1 + Lb := by rw [logB_append, List.length_append, hsz2.out, ← hLbe.out]
  rw [hLL2] at kB
  have hscan3 := logScan_all (xa ++ ys1 ++ xb) (fun x hx => by
    rcases List.mem_append.1 hx with hx | hx
    · rcases List.mem_append.1 hx with hx | hx
      · exact hXr.out x hx
      · exact hYr.out x (by rw [hyz.out]; exact List.mem_append_left _ hx)
    · exact hYr.out x hx) (fun x hx => by
    rcases List.mem_append.1 hx with hx | hx
    · rcases List.mem_append.1 hx with hx | hx
      · exact hX5.out.nums x hx
      · exact hY.out.nums x (by rw [hyz.out]; exact List.mem_append_left _ hx)
    · exact hY.out.nums x hx)
  rw [hLL2] at hscan3
  obtain ⟨D2, hD2⟩ : ∃ D2, D2 = logB (xa ++ ys1 ++ xb) := ⟨_, rfl⟩
  rw [← hD2] at kB hscan3 st22
  replace kB := Lib.hid kB
  replace hscan3 := Lib.hid hscan3
  replace hLL2 := Lib.hid hLL2
  go_wp2_with fail
  refine kB.out.mono ?_
  rintro e w23 ⟨A23, c23, rfl, ho23, -, hm23⟩
  dsimp only
  have st23 := Lib.hid (st22.out.mod0 hm23)
  have hN23 := Lib.hid (hN22.out.mod0 hm23)
  have ho23b := Lib.hid (ho22.out.mod0 hm23)
  have hM23 := Lib.hid (hM22.out.mod0 hm23)
  have hlc : La + N1 + Lb ≤ c23 := ho23.2.1
  have hcm : c23 ≤ maxLen := ho23.2.2.1
  have hcl : c23 ≤ 9223372036854775807 := by unfold maxLen at hcm; omega
  have kS := logScan_ok w23 A23 (La + N1 + Lb) c23 D2 ho23.rd hlc hcl (by omega)
  unfold LScanPost at kS
  rw [hscan3.out] at kS
  clear ho23 hm23 st22 hN22 ho22 hM22 kB hcm
  replace kS := Lib.hid kS
  go_wp2_with fail
  refine kS.out.mono ?_
  rintro e w24 ⟨A24, n24, c24, xs3, rfl, hN24, hxr3, hm24⟩
  dsimp only at hxr3 ⊢
  have st24 := Lib.hid (st23.out.mod0 hm24)
  have hN24b := Lib.hid (hN23.out.mod0 hm24)
  have ho24 := Lib.hid (ho23b.out.mod0 hm24)
  have hM24 := Lib.hid (hM23.out.mod0 hm24)
  clear hm24 st23 hN23 ho23b hM23 kS hlc hcl
  replace hN24 := Lib.hid hN24
  replace hxr3 := Lib.hid hxr3
  have kL := Lib.hid (last_ok w24 A17 n17 c17 xs1 hN24b.out.list.rd hinI.out (by omega))
  go_wp2_with fail
  refine kL.out.mono ?_
  rintro e w25 ⟨A25, n25, c25, zs, rfl, hLO, ho25, hf25, hm25⟩
  dsimp only
  have st25 := Lib.hid (st24.out.mod0 hm25)
  have hN25 := Lib.hid (hN24.out.mod0 hm25)
  have hN25b := Lib.hid (hN24b.out.mod0 hm25)
  have he25 : zs2.map (·.r) = zs.map (·.r) := by
    have h1 := hLO2.out.c
    have h2 := hLO.c
    rw [hxr2] at h1
    rw [hxr1.out] at h2
    exact h1.one h2
  have hS2 : RsL w25 A21 n21 zs2 := ⟨(ho24.out.mod0 hm25).rd, hM24.out.mod0 hm25, fun y hy => (hok21.out y hy).1, fun y hy => (hok21.out y hy).2⟩
  have hS3 : RsL w25 A25 n25 zs := ⟨ho25.rd, fun y hy => hN25b.out.list.mem y (hLO.mem hy), fun y hy => hN25b.out.list.ok y (hLO.mem hy), fun y hy => hN25b.out.list.nums y (hLO.mem hy)⟩
  have hn21 : n21 ≤ 140737488355328 := by
    have h1 := hS2.len
    have h2 := congrArg List.length hxr2
    simp only [List.length_map, List.length_append] at h2
    have h3 := hX5.out.len
    have h4 := hy1.out
    omega
  have kE := Lib.hid (same15_eq w25 A21 A25 n21 n25 c21 c25 zs2 zs hS2 hS3 he25 hn21)
  clear hm25 hLO ho25 hf25 hS2 hS3 he25 hn21 st24 hN24 hN24b ho24 hM24 kL
  go_wp2_with fail
  refine kE.out.mono ?_
  rintro e w26 ⟨rfl, hm26⟩
  dsimp only
  have st26 := Lib.hid (st25.out.mod0 hm26)
  have hN26 := Lib.hid (hN25.out.mod0 hm26)
  have hN26b := Lib.hid (hN25b.out.mod0 hm26)
  have kB := disk_bytes p A22 c22 w26 _ st26.out.dk
  dsimp only at kB
  rw [hD2, hLL2.out] at kB
  clear hm26 st25 hN25 hN25b kE
  replace kB := Lib.hid kB
  go_wp2_with fail
  refine kB.out.mono ?_
  rintro e w27 ⟨A27, c27, rfl, -, -, hm27⟩
  dsimp only
  have st27 := Lib.hid (st26.out.mod0 hm27)
  have hN27 := Lib.hid (hN26.out.mod0 hm27)
  have hN27b := Lib.hid (hN26b.out.mod0 hm27)
  have hY27 := Lib.hid (hY.out.mod0 st27.out.mod)
  have hL27 := Lib.hid hN27b.out.list
  clear hm27 st26 hN26 hN26b kB
  go_wp2_with (first
    | (show wpList _ _ _ (⟨some 149, _, _, _, _, _⟩ :: _) _ _; go_loud (refine appRg (by rfl) (.const (.slice none 0 0)) (.tmp 148) rfl rfl (OwR.none_ _) rfl hL27.out.rd (by omega) ?_; intro A28 c28 w28 ho28 hm28 hA28; rw [Nat.zero_add, List.nil_append] at ho28; replace ho28 := Lib.hid ho28; replace hm28 := Lib.hid hm28; replace hA28 := Lib.hid hA28))
    | (show wpList _ _ _ (⟨some 151, _, _, _, _, _⟩ :: _) _ _; go_loud (refine appRg (by rfl) (.tmp 149) (.tmp 150) rfl rfl ho28.out rfl (Rd.mod0 hY27.out.rd hm28.out.nil_own) (by omega) ?_; intro A29 c29 w29 ho29 hm29 hA29; replace ho29 := Lib.hid ho29; replace hm29 := Lib.hid hm29; replace hA29 := Lib.hid hA29)))
  have hmm29 := hm28.out.then_own hA28.out hm29.out
  have hS29 : RsL w29 A29 (n17 + m5) (xs1 ++ xb) := RsL.app (hL27.out.mod0 hmm29) (hY27.out.mod0 hmm29) ho29.out.rd
  have kE := Lib.hid (same15_eq w29 A24 A29 n24 (n17 + m5) c24 c29 xs3 _ ((hN27.out.mod0 hmm29).list) hS29 (by have h9 := hxr1.out; simp only [List.map_append] at h9; rw [hxr3.out]; simp only [List.map_append]; rw [h9]) (by
    have h1 := hN27.out.len
    have h2 := congrArg List.length hxr3.out
    simp only [List.length_map, List.length_append] at h2
    have h3 := hX5.out.len
    have h4 := hy1.out
    have h5 := hY.out.len
    omega))
  have st29 := Lib.hid (st27.out.mod0 hmm29)
  clear hS29 hmm29 hm28 hA28 hm29 hA29 ho28 ho29 hN27 hN27b hY27 hL27 st27
  refine kE.out.mono ?_
  rintro e w30 ⟨rfl, hm30⟩
  dsimp only
  have hfin := Lib.hid (hM5.out.trans (st29.out.mod.trans hm30))
  clear hm30 kE
  go_wp2_with fail
  go_ret
  exact ⟨rfl, hfin.out⟩
end Go.Proofs.YtdnbclhidpkpgaaGreat
