import Derived.Test.YtimlfdihodoolaaGreatZp17
import Derived.Test.YtimlfdihodoolaaGreatZp7
/-
  The reference's Same of entries, in general; its Ahead, its word for an Inst. No condition.
-/
namespace Go.Proofs.YtimlfdihodoolaaGreat
set_option linter.unusedVariables false
set_option linter.unusedSimpArgs false
open Go.RowKit
set_option maxRecDepth 100000 in
set_option maxHeartbeats 8000000 in
theorem same14_ok (w : World) (a b : En) (L D M E : SV) (ha : EnM w a L D) (hb : EnM w b M E) (hL : L.n ≤ 140737488355328) (hD : D.n ≤ 140737488355328) (hM : M.n ≤ 140737488355328) :
    Calls Tryz.prog 29 #[.agg #[.int .i64 a.o.c, .int .i64 a.o.s, .int .i64 a.o.k, .string (txt a.o.acct), .string (txt a.o.peer), .int .i64 a.o.sum, .slice L.a L.n L.c, .int .i64 a.o.per, .int .i64 a.o.hold, .string (txt a.o.note), .bool a.none, .slice D.a D.n D.c], .agg #[.int .i64 b.o.c, .int .i64 b.o.s, .int .i64 b.o.k, .string (txt b.o.acct), .string (txt b.o.peer), .int .i64 b.o.sum, .slice M.a M.n M.c, .int .i64 b.o.per, .int .i64 b.o.hold, .string (txt b.o.note), .bool b.none, .slice E.a E.n E.c]] w fun e w' => e = .returned (.bool (decide (a = b))) ∧ Mod none_ w w' := by
  have k6 := Lib.hid (fun W (h : Mod none_ w W) => same6_ok W a.o b.o L M (ha.od.mod0 h) (hb.od.mod0 h) hL hM)
  have hm0 := ((Mod.refl none_ w).alloc (.cells #[.int .i64 a.o.c, .int .i64 a.o.s, .int .i64 a.o.k, .string (txt a.o.acct), .string (txt a.o.peer), .int .i64 a.o.sum, .slice L.a L.n L.c, .int .i64 a.o.per, .int .i64 a.o.hold, .string (txt a.o.note), .bool a.none, .slice D.a D.n D.c] 33)).alloc (.cells #[.int .i64 b.o.c, .int .i64 b.o.s, .int .i64 b.o.k, .string (txt b.o.acct), .string (txt b.o.peer), .int .i64 b.o.sum, .slice M.a M.n M.c, .int .i64 b.o.per, .int .i64 b.o.hold, .string (txt b.o.note), .bool b.none, .slice E.a E.n E.c] 33)
  have hb1 := (Blk.new w 33 #[.int .i64 a.o.c, .int .i64 a.o.s, .int .i64 a.o.k, .string (txt a.o.acct), .string (txt a.o.peer), .int .i64 a.o.sum, .slice L.a L.n L.c, .int .i64 a.o.per, .int .i64 a.o.hold, .string (txt a.o.note), .bool a.none, .slice D.a D.n D.c]).alloc (.cells #[.int .i64 b.o.c, .int .i64 b.o.s, .int .i64 b.o.k, .string (txt b.o.acct), .string (txt b.o.peer), .int .i64 b.o.sum, .slice M.a M.n M.c, .int .i64 b.o.per, .int .i64 b.o.hold, .string (txt b.o.note), .bool b.none, .slice E.a E.n E.c] 33)
  have hb2 := Blk.new (w.alloc (.cells #[.int .i64 a.o.c, .int .i64 a.o.s, .int .i64 a.o.k, .string (txt a.o.acct), .string (txt a.o.peer), .int .i64 a.o.sum, .slice L.a L.n L.c, .int .i64 a.o.per, .int .i64 a.o.hold, .string (txt a.o.note), .bool a.none, .slice D.a D.n D.c] 33)) 33 #[.int .i64 b.o.c, .int .i64 b.o.s, .int .i64 b.o.k, .string (txt b.o.acct), .string (txt b.o.peer), .int .i64 b.o.sum, .slice M.a M.n M.c, .int .i64 b.o.per, .int .i64 b.o.hold, .string (txt b.o.note), .bool b.none, .slice E.a E.n E.c]
  have hsz : (w.alloc (.cells #[.int .i64 a.o.c, .int .i64 a.o.s, .int .i64 a.o.k, .string (txt a.o.acct), .string (txt a.o.peer), .int .i64 a.o.sum, .slice L.a L.n L.c, .int .i64 a.o.per, .int .i64 a.o.hold, .string (txt a.o.note), .bool a.none, .slice D.a D.n D.c] 33)).heap.size = w.heap.size + 1 := by simp
  rw [hsz] at hb2
  clear hsz
  have hRa := Lib.hid ha.rd
  have hRb := Lib.hid hb.rd
  have hal := Lib.hid ha.rd.len
  have hbl := Lib.hid hb.rd.len
  have he := @en_eq a b
  clear ha hb
  obtain ⟨res, hres⟩ : ∃ res, decide (a = b) = res := ⟨_, rfl⟩
  rw [hres]
  replace hm0 := Lib.hid hm0
  replace hb1 := Lib.hid hb1
  replace hb2 := Lib.hid hb2
  replace he := Lib.hid he
  by_cases h1 : a.o = b.o
  case neg =>
    rw [decide_eq_false h1] at k6
    obtain rfl : res = false := by rw [← hres]; exact decide_eq_false (fun h => h1 (he.out.1 h).2.1)
    replace h1 := Lib.hid h1
    replace hres := Lib.hid hres
    go_enter Tryz.func29, Tryz.ntmps29
    go_wp2_with fail
    with_reducible refine (k6.out _ hm0.out).mono ?_
    rintro e W0 ⟨rfl, hm1⟩
    dsimp only
    have hM1 := Lib.hid (hm0.out.trans hm1)
    clear hm1
    go_wp2_with fail
    go_ret
    exact ⟨rfl, hM1.out⟩
  case pos =>
  rw [decide_eq_true h1] at k6
  by_cases h2 : a.none = b.none
  case neg =>
    have hz2 : (a.none != b.none) = true := by simpa using h2
    obtain rfl : res = false := by rw [← hres]; exact decide_eq_false (fun h => h2 (he.out.1 h).1)
    replace h1 := Lib.hid h1
    replace h2 := Lib.hid h2
    replace hres := Lib.hid hres
    go_enter Tryz.func29, Tryz.ntmps29
    go_wp2_with fail
    with_reducible refine (k6.out _ hm0.out).mono ?_
    rintro e W0 ⟨rfl, hm1⟩
    dsimp only
    have hM1 := Lib.hid (hm0.out.trans hm1)
    have hB1 := Lib.hid (hb1.out.mod hm1 (fun h => h))
    have hB2 := Lib.hid (hb2.out.mod hm1 (fun h => h))
    have i1 : W0.cell? ⟨w.heap.size, 10, none⟩ = some (.bool a.none) := hB1.out.cell_ rfl
    have i2 : W0.cell? ⟨w.heap.size + 1, 10, none⟩ = some (.bool b.none) := hB2.out.cell_ rfl
    clear hm1
    go_wp2_with fail
    go_ret
    exact ⟨rfl, hM1.out⟩
  case pos =>
  have hz2 : (a.none != b.none) = false := by simpa using h2
  by_cases h3 : D.n = E.n
  case neg =>
    have hz : ((D.n : Int) != (E.n : Int)) = true := by simp; omega
    obtain rfl : res = false := by rw [← hres]; exact decide_eq_false (fun h => h3 (by rw [← hal.out, ← hbl.out, h]))
    replace h1 := Lib.hid h1
    replace h2 := Lib.hid h2
    replace h3 := Lib.hid h3
    replace hres := Lib.hid hres
    go_enter Tryz.func29, Tryz.ntmps29
    go_wp2_with fail
    with_reducible refine (k6.out _ hm0.out).mono ?_
    rintro e W0 ⟨rfl, hm1⟩
    dsimp only
    have hM1 := Lib.hid (hm0.out.trans hm1)
    have hB1 := Lib.hid (hb1.out.mod hm1 (fun h => h))
    have hB2 := Lib.hid (hb2.out.mod hm1 (fun h => h))
    have i1 : W0.cell? ⟨w.heap.size, 10, none⟩ = some (.bool a.none) := hB1.out.cell_ rfl
    have i2 : W0.cell? ⟨w.heap.size + 1, 10, none⟩ = some (.bool b.none) := hB2.out.cell_ rfl
    have i3 : W0.cell? ⟨w.heap.size, 11, none⟩ = some (.slice D.a D.n D.c) := hB1.out.cell_ rfl
    have i4 : W0.cell? ⟨w.heap.size + 1, 11, none⟩ = some (.slice E.a E.n E.c) := hB2.out.cell_ rfl
    clear hm1
    go_wp2_with fail
    go_ret
    exact ⟨rfl, hM1.out⟩
  case pos =>
  have hz : ((D.n : Int) != (E.n : Int)) = false := by simp [h3]
  replace h1 := Lib.hid h1
  replace h2 := Lib.hid h2
  replace h3 := Lib.hid h3
  go_enter Tryz.func29, Tryz.ntmps29
  go_wp2_with fail
  with_reducible refine (k6.out _ hm0.out).mono ?_
  rintro e W0 ⟨rfl, hm1⟩
  dsimp only
  have hM1 := Lib.hid (hm0.out.trans hm1)
  have hB1 := Lib.hid (hb1.out.mod hm1 (fun h => h))
  have hB2 := Lib.hid (hb2.out.mod hm1 (fun h => h))
  have i1 : W0.cell? ⟨w.heap.size, 10, none⟩ = some (.bool a.none) := hB1.out.cell_ rfl
  have i2 : W0.cell? ⟨w.heap.size + 1, 10, none⟩ = some (.bool b.none) := hB2.out.cell_ rfl
  have i3 : W0.cell? ⟨w.heap.size, 11, none⟩ = some (.slice D.a D.n D.c) := hB1.out.cell_ rfl
  have i4 : W0.cell? ⟨w.heap.size + 1, 11, none⟩ = some (.slice E.a E.n E.c) := hB2.out.cell_ rfl
  clear hm1 hb1 hb2 hm0 k6
  go_wp2_with fail
  clear i1 i2 i3 i4
  go_loopg [5] D.n (fun k x wr => ∃ j : Nat, x = .int .i64 j ∧ j + k = D.n ∧ (∀ i, i < j → a.deps[i]? = b.deps[i]?) ∧ ∃ q, wr = W0.drewN q)
  case atStart => exact ⟨0, rfl, by omega, fun i h => absurd h (Nat.not_lt_zero _), 0, rfl⟩
  case round =>
    obtain ⟨j, rfl, hj, hall, q, hq⟩ := hrel
    have c1 : wr.cell? ⟨w.heap.size, 11, none⟩ = some (.slice D.a D.n D.c) := by rw [hq]; exact (hB1.out.drewN q).cell_ rfl
    have c2 : wr.cell? ⟨w.heap.size + 1, 11, none⟩ = some (.slice E.a E.n E.c) := by rw [hq]; exact (hB2.out.drewN q).cell_ rfl
    by_cases hlt : j < D.n
    · have hmq := hM1.out.drewN q
      have hltM : j < E.n := by have := h3.out; omega
      obtain ⟨b1, o1, x, e1, -, hx0, a1, a2⟩ := rdp_get (w := W0.drewN q) (Rd.mod0 hRa.out hmq) hlt
      obtain ⟨b2, o2, y, e2, -, hy0, y1, y2⟩ := rdp_get (w := W0.drewN q) (Rd.mod0 hRb.out hmq) hltM
      rw [← hq] at a1 a2 y1 y2
      rw [e1] at c1
      rw [e2] at c2
      have hne := fun W => neq_is W x y
      unfold isV at hne
      have hend := Lib.hid (show Mod none_ w wr by rw [hq]; exact hmq)
      by_cases hxy : x = y
      · have hn : ∀ i, i < j + 1 → a.deps[i]? = b.deps[i]? := fun i hi => by
          by_cases e : i = j
          · rw [e, hx0, hy0, hxy]
          · exact hall i (by omega)
        simp only [hxy, decide_true, Bool.not_true] at hne a1 a2
        clear hall hmq
        replace hq := Lib.hid hq
        replace hn := Lib.hid hn
        replace e1 := Lib.hid e1
        replace e2 := Lib.hid e2
        replace hxy := Lib.hid hxy
        replace hx0 := Lib.hid hx0
        replace hy0 := Lib.hid hy0
        go_wp2_with (go_quiet (fail))
        go_roundg (gk - 1)
        case measure => omega
        case rel => exact ⟨j + 1, by go_num, by omega, hn.out, _, by rw [hq.out, World.drewN_drewN]⟩
      · have hno : res = false := by
          rw [← hres]
          refine decide_eq_false (fun h => hxy ?_)
          rw [h] at hx0
          rw [hx0] at hy0
          injection hy0
        rw [decide_eq_false hxy, Bool.not_false] at hne
        clear hall hmq
        replace hq := Lib.hid hq
        replace e1 := Lib.hid e1
        replace e2 := Lib.hid e2
        replace hxy := Lib.hid hxy
        replace hx0 := Lib.hid hx0
        replace hy0 := Lib.hid hy0
        replace hno := Lib.hid hno
        go_wp2_with (go_quiet (fail))
        go_ret
        exact ⟨by rw [hno.out] <;> rfl, hend.out.drewN _⟩
    · have hyes : res = true := by
        rw [← hres]
        refine decide_eq_true (he.out.2 ⟨h2.out, h1.out, ?_⟩)
        apply List.ext_getElem?
        intro i
        by_cases hi : i < j
        · exact hall i hi
        · rw [List.getElem?_eq_none (by rw [hal.out]; omega), List.getElem?_eq_none (by rw [hbl.out]; have := h3.out; omega)]
      obtain rfl : j = D.n := by omega
      have hend := Lib.hid (show Mod none_ w wr by rw [hq]; exact hM1.out.drewN q)
      clear hall
      replace hq := Lib.hid hq
      replace hyes := Lib.hid hyes
      go_wp2_with fail
      go_ret
      exact ⟨by rw [hyes.out] <;> rfl, hend.out⟩
theorem r14rt_ok (w : World) (a : Is) : Calls Tryz.prog 93 #[.agg #[.int .i64 a.r, .int .i64 a.n]] w fun e w' => e = .returned (.bool (rightI a)) ∧ Mod none_ w w' := by
  obtain ⟨ar, an⟩ := a
  have hr : Hid (rightI ⟨ar, an⟩ = decide (0 ≤ ar ∧ ar ≤ 6 ∧ 1 ≤ an ∧ an ≤ 10000)) := Lib.hid rfl
  dsimp only
  go_enter Tryz.func93, Tryz.ntmps93
  go_wp2_with fail
  all_goals
    go_ret
    refine ⟨?_, (Mod.refl none_ w).alloc _⟩
    rw [hr.out]
    first | (simp_all; done) | (simp; omega)
theorem r14ahead_ok (w : World) (a b : Is) : Calls Tryz.prog 94 #[.agg #[.int .i64 a.r, .int .i64 a.n], .agg #[.int .i64 b.r, .int .i64 b.n]] w fun e w' => e = .returned (.bool (isLt a b)) ∧ Mod none_ w w' := by
  obtain ⟨ar, an⟩ := a
  obtain ⟨br, bn⟩ := b
  have hr : Hid (isLt ⟨ar, an⟩ ⟨br, bn⟩ = decide (ar < br ∨ (ar = br ∧ an < bn))) := Lib.hid rfl
  dsimp only
  go_enter Tryz.func94, Tryz.ntmps94
  go_wp2_with fail
  all_goals
    go_ret
    refine ⟨?_, ((Mod.refl none_ w).alloc _).alloc _⟩
    rw [hr.out]
    first | (simp_all; done) | (simp; omega)
end Go.Proofs.YtimlfdihodoolaaGreat
/-
  The reference's Right of entries. No condition.
-/
namespace Go.Proofs.YtimlfdihodoolaaGreat
set_option linter.unusedVariables false
set_option linter.unusedSimpArgs false
open Go.RowKit
set_option maxRecDepth 100000 in
set_option maxHeartbeats 8000000 in
theorem r14right_ok (w : World) (i : Is) (e : En) (L D : SV) (hE : EnM w e L D) (hL : L.n ≤ 140737488355328) (hDn : D.n ≤ 140737488355328) (hz : ∀ l ∈ e.o.legs, (txt l.n).size ≤ maxLen) (ta : (txt e.o.acct).size ≤ maxLen) (tp : (txt e.o.peer).size ≤ maxLen) :
    Calls Tryz.prog 77 #[.agg #[.int .i64 i.r, .int .i64 i.n], .agg #[.int .i64 e.o.c, .int .i64 e.o.s, .int .i64 e.o.k, .string (txt e.o.acct), .string (txt e.o.peer), .int .i64 e.o.sum, .slice L.a L.n L.c, .int .i64 e.o.per, .int .i64 e.o.hold, .string (txt e.o.note), .bool e.none, .slice D.a D.n D.c]] w fun e' w' => e' = .returned (.bool (rightE i e)) ∧ Mod none_ w w' := by
  obtain ⟨DA, n, Dc⟩ := D
  dsimp only at hDn ⊢
  have kR := Lib.hid (fun W a => r14rt_ok W a)
  have kA := Lib.hid (fun W a b => r14ahead_ok W a b)
  have hlen := hE.rd.len
  have hrd := hE.rd
  dsimp only at hlen hrd
  have hB1 : Blk ((w.alloc (.cells #[.int .i64 i.r, .int .i64 i.n] 25)).alloc (.cells #[.int .i64 e.o.c, .int .i64 e.o.s, .int .i64 e.o.k, .string (txt e.o.acct), .string (txt e.o.peer), .int .i64 e.o.sum, .slice L.a L.n L.c, .int .i64 e.o.per, .int .i64 e.o.hold, .string (txt e.o.note), .bool e.none, .slice DA n Dc] 33)) w.heap.size 25 #[.int .i64 i.r, .int .i64 i.n] := (Blk.new w _ _).alloc _
  have hB2 : Blk ((w.alloc (.cells #[.int .i64 i.r, .int .i64 i.n] 25)).alloc (.cells #[.int .i64 e.o.c, .int .i64 e.o.s, .int .i64 e.o.k, .string (txt e.o.acct), .string (txt e.o.peer), .int .i64 e.o.sum, .slice L.a L.n L.c, .int .i64 e.o.per, .int .i64 e.o.hold, .string (txt e.o.note), .bool e.none, .slice DA n Dc] 33)) (w.heap.size + 1) 33 #[.int .i64 e.o.c, .int .i64 e.o.s, .int .i64 e.o.k, .string (txt e.o.acct), .string (txt e.o.peer), .int .i64 e.o.sum, .slice L.a L.n L.c, .int .i64 e.o.per, .int .i64 e.o.hold, .string (txt e.o.note), .bool e.none, .slice DA n Dc] := heap_alloc2_new w _ _
  have hm0 := ((Mod.refl none_ w).alloc (.cells #[.int .i64 i.r, .int .i64 i.n] 25)).alloc (.cells #[.int .i64 e.o.c, .int .i64 e.o.s, .int .i64 e.o.k, .string (txt e.o.acct), .string (txt e.o.peer), .int .i64 e.o.sum, .slice L.a L.n L.c, .int .i64 e.o.per, .int .i64 e.o.hold, .string (txt e.o.note), .bool e.none, .slice DA n Dc] 33)
  obtain ⟨wB, hwB⟩ : ∃ wB, (w.alloc (.cells #[.int .i64 i.r, .int .i64 i.n] 25)).alloc (.cells #[.int .i64 e.o.c, .int .i64 e.o.s, .int .i64 e.o.k, .string (txt e.o.acct), .string (txt e.o.peer), .int .i64 e.o.sum, .slice L.a L.n L.c, .int .i64 e.o.per, .int .i64 e.o.hold, .string (txt e.o.note), .bool e.none, .slice DA n Dc] 33) = wB := ⟨_, rfl⟩
  rw [hwB] at hB1 hB2 hm0
  replace hE := Lib.hid hE
  replace hB1 := Lib.hid hB1
  replace hB2 := Lib.hid hB2
  replace hm0 := Lib.hid hm0
  replace hlen := Lib.hid hlen
  replace hz := Lib.hid hz
  replace ta := Lib.hid ta
  replace tp := Lib.hid tp
  replace hwB := Lib.hid hwB
  replace hrd := Lib.hid hrd
  go_enter Tryz.func77, Tryz.ntmps77
  go_wp2_with fail
  rw [hwB.out]
  go_loopg [5] n (fun k x wr => ∃ j : Nat, x = .int .i64 j ∧ j + k = n ∧ (∀ j', j' < j → goodD i e.deps j' = true) ∧ Mod none_ wB wr)
  case atStart => exact ⟨0, rfl, by omega, fun j' h => absurd h (Nat.not_lt_zero _), Mod.refl _ _⟩
  case round =>
    obtain ⟨j, rfl, hj, hg, hmr⟩ := hrel
    have b1 := hB1.out.mod hmr (fun h => h)
    have b2 := hB2.out.mod hmr (fun h => h)
    have u11 : wr.cell? ⟨w.heap.size + 1, 11, none⟩ = some (.slice DA n Dc) := b2.cell_ rfl
    by_cases hlt : j < n
    · obtain ⟨b, o, d, rfl, hmem, hdj, y1, y2⟩ := rdp_get (hrd.out.mod0 (hm0.out.trans hmr)) hlt
      obtain ⟨dr, dn⟩ := d
      dsimp only at y1 y2
      have hjl : j < e.deps.length := by rw [hlen.out]; exact hlt
      have rd1 := hrd.out.mod0 (hm0.out.trans hmr)
      have hne : Nonempty (Cls (Mod none_ wr)) := ⟨⟨_, Mod.refl _ _⟩⟩
      have g0 : ∀ s : Cls (Mod none_ wr), s.W.cell? ⟨b, o + j*2, none⟩ = some (.int .i64 dr) := fun s => s.ok.cell_some y1 (fun h => h)
      have g1 : ∀ s : Cls (Mod none_ wr), s.W.cell? ⟨b, o + j*2 + 1, none⟩ = some (.int .i64 dn) := fun s => s.ok.cell_some y2 (fun h => h)
      have g2 : ∀ s : Cls (Mod none_ wr), s.W.cell? ⟨w.heap.size, 0, none⟩ = some (.int .i64 i.r) := fun s => (b1.mod s.ok (fun h => h)).cell_ rfl
      have g3 : ∀ s : Cls (Mod none_ wr), s.W.cell? ⟨w.heap.size, 1, none⟩ = some (.int .i64 i.n) := fun s => (b1.mod s.ok (fun h => h)).cell_ rfl
      have g4 : ∀ s : Cls (Mod none_ wr), s.W.cell? ⟨w.heap.size + 1, 11, none⟩ = some (.slice (some ⟨b, o, none⟩) n Dc) := fun s => (b2.mod s.ok (fun h => h)).cell_ rfl
      have kc := Lib.hid (fun s : Cls (Mod none_ wr) => (kR.out s.W ⟨dr, dn⟩).mono (fun e w' (h : _ ∧ _) => (⟨h.1, s.ok.trans h.2⟩ : _ ∧ Mod none_ wr w')))
      have hei := fun W => eql_is W ⟨dr, dn⟩ i
      unfold isV at hei
      dsimp only at hei
      have hu1 : (0 : Int) ≤ (j : Int) := by omega
      have hu2 : (j : Int) < (n : Int) := by omega
      have hgj : goodD i e.deps j = (rightI ⟨dr, dn⟩ && !decide ((⟨dr, dn⟩ : Is) = i) && (decide (j = 0) || match e.deps[j - 1]? with | none => true | some p => isLt p ⟨dr, dn⟩)) := by unfold goodD; rw [hdj] <;> rfl
      have hnx : goodD i e.deps j = true → ∀ j', j' < j + 1 → goodD i e.deps j' = true := fun h j' hj' => by
        by_cases e1 : j' = j
        · subst e1; exact h
        · exact hg j' (by omega)
      clear y1 y2
      replace b1 := Lib.hid b1
      replace b2 := Lib.hid b2
      cases hr : rightI ⟨dr, dn⟩ with
      | false =>
        rw [hr] at kc
        have hno := depsB_no hjl (by rw [hgj, hr] <;> rfl)
        have ka := kc
        clear hgj hnx
        replace rd1 := Lib.hid rd1
        replace hr := Lib.hid hr
        replace hno := Lib.hid hno
        replace hg := Lib.hid hg
        replace hmr := Lib.hid hmr
        replace hdj := Lib.hid hdj
        go_wp2_with fail
        refine wp_region_cls (Mod none_ wr) (by kernel_rfl) (by kernel_rfl) (Mod.refl none_ _).drew ?_
        try simp only [List.append_eq, List.cons_append, List.nil_append]
        repeat (go_big_quiet_step (first | (go_at_call 93; exact cls_of (kc.out _)) | (go_at_call 94; exact cls_of (ka.out _))))
        refine wpQuiet_nil ?_
        rintro _ ⟨⟨W, hW⟩, rfl⟩
        replace hW := Lib.hid (hm0.out.trans (hmr.out.trans hW))
        go_wp2_with fail
        go_ret
        refine ⟨?_, hW.out⟩
        rw [show rightE i e = false by unfold rightE; rw [hno.out] <;> rfl]; rfl
      | true =>
        rw [hr] at kc
        by_cases hdi : (⟨dr, dn⟩ : Is) = i
        · rw [decide_eq_true hdi] at hei
          have hno := depsB_no hjl (by rw [hgj, hr, decide_eq_true hdi] <;> rfl)
          have ka := kc
          clear hgj hnx
          replace rd1 := Lib.hid rd1
          replace hr := Lib.hid hr
          replace hdi := Lib.hid hdi
          replace hno := Lib.hid hno
          replace hg := Lib.hid hg
          replace hmr := Lib.hid hmr
          replace hdj := Lib.hid hdj
          go_wp2_with fail
          refine wp_region_cls (Mod none_ wr) (by kernel_rfl) (by kernel_rfl) (Mod.refl none_ _).drew ?_
          try simp only [List.append_eq, List.cons_append, List.nil_append]
          repeat (go_big_quiet_step (first | (go_at_call 93; exact cls_of (kc.out _)) | (go_at_call 94; exact cls_of (ka.out _))))
          refine wpQuiet_nil ?_
          rintro _ ⟨⟨W, hW⟩, rfl⟩
          replace hW := Lib.hid (hm0.out.trans (hmr.out.trans hW))
          go_wp2_with fail
          go_ret
          refine ⟨?_, hW.out⟩
          rw [show rightE i e = false by unfold rightE; rw [hno.out] <;> rfl]; rfl
        · rw [decide_eq_false hdi] at hei
          by_cases hj0 : j = 0
          · have hyes := hnx (by rw [hgj, hr, decide_eq_false hdi, decide_eq_true hj0] <;> rfl)
            have ka := kc
            clear hgj hnx
            replace rd1 := Lib.hid rd1
            replace hr := Lib.hid hr
            replace hdi := Lib.hid hdi
            subst hj0
            simp only [Nat.zero_mul, Nat.add_zero] at g0 g1
            replace hyes := Lib.hid hyes
            replace hg := Lib.hid hg
            replace hmr := Lib.hid hmr
            replace hdj := Lib.hid hdj
            go_wp2_with fail
            refine wp_region_cls (Mod none_ wr) (by kernel_rfl) (by kernel_rfl) (Mod.refl none_ _).drew ?_
            try simp only [List.append_eq, List.cons_append, List.nil_append]
            repeat (go_big_quiet_step (first | (go_at_call 93; exact cls_of (kc.out _)) | (go_at_call 94; exact cls_of (ka.out _))))
            refine wpQuiet_nil ?_
            rintro _ ⟨⟨W, hW⟩, rfl⟩
            replace hW := Lib.hid (hmr.out.trans hW)
            go_wp2_with fail
            go_roundg (gk - 1)
            case measure => omega
            case rel => exact ⟨0 + 1, by go_num, by omega, hyes.out, hW.out⟩
          · obtain ⟨j1, rfl⟩ : ∃ j1, j = j1 + 1 := ⟨j - 1, by omega⟩
            obtain ⟨b', o', p, hbo, hmp, hdp, z1, z2⟩ := rdp_get rd1 (j := j1) (by omega)
            cases hbo
            obtain ⟨pr, pn⟩ := p
            dsimp only at z1 z2
            have g5 : ∀ s : Cls (Mod none_ wr), s.W.cell? ⟨b, o + j1*2, none⟩ = some (.int .i64 pr) := fun s => s.ok.cell_some z1 (fun h => h)
            have g6 : ∀ s : Cls (Mod none_ wr), s.W.cell? ⟨b, o + j1*2 + 1, none⟩ = some (.int .i64 pn) := fun s => s.ok.cell_some z2 (fun h => h)
            clear z1 z2
            have ka := Lib.hid (fun s : Cls (Mod none_ wr) => (kA.out s.W ⟨pr, pn⟩ ⟨dr, dn⟩).mono (fun e w' (h : _ ∧ _) => (⟨h.1, s.ok.trans h.2⟩ : _ ∧ Mod none_ wr w')))
            rw [show j1 + 1 - 1 = j1 from rfl, hdp] at hgj
            dsimp only at hgj
            have hw1 : wrap64 (((j1 + 1 : Nat) : Int) - 1) = (j1 : Int) := by unfold wrap64; omega
            have hw2 : IntKind.i64.wrap (((j1 + 1 : Nat) : Int) - 1) = (j1 : Int) := by rw [IntKind.wrap_i64]; omega
            have hw3 : ((j1 : Int) + 1 - 1) = (j1 : Int) := by omega
            have hu3 : (0 : Int) ≤ (j1 : Int) := by omega
            have hu4 : (j1 : Int) < (n : Int) := by omega
            cases hlt2 : isLt ⟨pr, pn⟩ ⟨dr, dn⟩ with
            | false =>
              rw [hlt2] at ka
              have hno := depsB_no hjl (by rw [hgj, hr, decide_eq_false hdi, hlt2] <;> rfl)
              clear hgj hnx
              replace rd1 := Lib.hid rd1
              replace hr := Lib.hid hr
              replace hdi := Lib.hid hdi
              replace hdp := Lib.hid hdp
              replace hmp := Lib.hid hmp
              replace hlt2 := Lib.hid hlt2
              replace hno := Lib.hid hno
              replace hg := Lib.hid hg
              replace hmr := Lib.hid hmr
              replace hdj := Lib.hid hdj
              go_wp2_with fail
              refine wp_region_cls (Mod none_ wr) (by kernel_rfl) (by kernel_rfl) (Mod.refl none_ _).drew ?_
              try simp only [List.append_eq, List.cons_append, List.nil_append]
              repeat (go_big_quiet_step (first | (go_at_call 93; exact cls_of (kc.out _)) | (go_at_call 94; exact cls_of (ka.out _))))
              refine wpQuiet_nil ?_
              rintro _ ⟨⟨W, hW⟩, rfl⟩
              replace hW := Lib.hid (hm0.out.trans (hmr.out.trans hW))
              go_wp2_with fail
              go_ret
              refine ⟨?_, hW.out⟩
              rw [show rightE i e = false by unfold rightE; rw [hno.out] <;> rfl]; rfl
            | true =>
              rw [hlt2] at ka
              have hyes := hnx (by rw [hgj, hr, decide_eq_false hdi, hlt2]; simp)
              clear hgj hnx
              replace rd1 := Lib.hid rd1
              replace hr := Lib.hid hr
              replace hdi := Lib.hid hdi
              replace hdp := Lib.hid hdp
              replace hmp := Lib.hid hmp
              replace hlt2 := Lib.hid hlt2
              replace hyes := Lib.hid hyes
              replace hg := Lib.hid hg
              replace hmr := Lib.hid hmr
              replace hdj := Lib.hid hdj
              go_wp2_with fail
              refine wp_region_cls (Mod none_ wr) (by kernel_rfl) (by kernel_rfl) (Mod.refl none_ _).drew ?_
              try simp only [List.append_eq, List.cons_append, List.nil_append]
              repeat (go_big_quiet_step (first | (go_at_call 93; exact cls_of (kc.out _)) | (go_at_call 94; exact cls_of (ka.out _))))
              refine wpQuiet_nil ?_
              rintro _ ⟨⟨W, hW⟩, rfl⟩
              replace hW := Lib.hid (hmr.out.trans hW)
              go_wp2_with fail
              go_roundg (gk - 1)
              case measure => omega
              case rel => exact ⟨j1 + 1 + 1, by go_num, by omega, hyes.out, hW.out⟩
    · obtain rfl : j = n := by omega
      have hdp : depsB i e.deps = true := depsB_yes fun j' h => hg j' (by rw [hlen.out] at h; exact h)
      have hm1 := hm0.out.trans hmr
      have kI := Lib.hid (fun W => kR.out W i)
      have hre : rightE i e = (rightI i && (if e.none then decide (e.o = od0) else rightO e.o)) := by unfold rightE; rw [hdp] <;> rfl
      have q10 : wr.cell? ⟨w.heap.size + 1, 10, none⟩ = some (.bool e.none) := b2.cell_ rfl
      have e0 : wr.cell? ⟨w.heap.size + 1, 0, none⟩ = some (.int .i64 e.o.c) := b2.cell_ rfl
      have e1 : wr.cell? ⟨w.heap.size + 1, 1, none⟩ = some (.int .i64 e.o.s) := b2.cell_ rfl
      have e2 : wr.cell? ⟨w.heap.size + 1, 2, none⟩ = some (.int .i64 e.o.k) := b2.cell_ rfl
      have e3 : wr.cell? ⟨w.heap.size + 1, 3, none⟩ = some (.string (txt e.o.acct)) := b2.cell_ rfl
      have e4 : wr.cell? ⟨w.heap.size + 1, 4, none⟩ = some (.string (txt e.o.peer)) := b2.cell_ rfl
      have e5 : wr.cell? ⟨w.heap.size + 1, 5, none⟩ = some (.int .i64 e.o.sum) := b2.cell_ rfl
      have e6 : wr.cell? ⟨w.heap.size + 1, 6, none⟩ = some (.slice L.a L.n L.c) := b2.cell_ rfl
      have e7 : wr.cell? ⟨w.heap.size + 1, 7, none⟩ = some (.int .i64 e.o.per) := b2.cell_ rfl
      have e8 : wr.cell? ⟨w.heap.size + 1, 8, none⟩ = some (.int .i64 e.o.hold) := b2.cell_ rfl
      have e9 : wr.cell? ⟨w.heap.size + 1, 9, none⟩ = some (.string (txt e.o.note)) := b2.cell_ rfl
      cases hnn : e.none with
      | true =>
        rw [hnn] at q10 hre
        rw [if_pos rfl] at hre
        have kS := Lib.hid (same6_ok wr e.o od0 L ⟨none, 0, 0⟩ (hE.out.od.mod0 hm1) (od0_mem wr) hL (by decide))
        generalize decide (e.o = od0) = z at *
        unfold od0 at kS
        replace hg := Lib.hid hg
        replace hmr := Lib.hid hmr
        replace hdp := Lib.hid hdp
        replace b1 := Lib.hid b1
        replace b2 := Lib.hid b2
        replace hm1 := Lib.hid hm1
        replace hnn := Lib.hid hnn
        replace hre := Lib.hid hre
        go_wp2_with fail
        have kS1 := kS.out
        rw [txt_nil] at kS1
        refine kS1.mono ?_
        rintro e' w2 ⟨rfl, hm2⟩
        dsimp only
        have hm3 := Lib.hid (hm1.out.trans hm2)
        have b3 := Lib.hid (b1.out.mod hm2 (fun h => h))
        have b4 := Lib.hid (b2.out.mod hm2 (fun h => h))
        have p0 : w2.cell? ⟨w.heap.size, 0, none⟩ = some (.int .i64 i.r) := b3.out.cell_ rfl
        have p1 : w2.cell? ⟨w.heap.size, 1, none⟩ = some (.int .i64 i.n) := b3.out.cell_ rfl
        clear hm2 kS kS1
        go_wp2_with fail
        refine (kI.out w2).mono ?_
        rintro e' w4 ⟨rfl, hm4⟩
        dsimp only
        have hm5 := Lib.hid (hm3.out.trans hm4)
        have b6 := Lib.hid (b4.out.mod hm4 (fun h => h))
        have q11 : w4.cell? ⟨w.heap.size + 1, 10, none⟩ = some (.bool true) := by rw [b6.out.cell_ (v := .bool e.none) rfl, hnn.out]
        clear hm4
        cases hri : rightI i with
        | false =>
          have hre := Lib.hid (hre.out.trans (by rw [hri]))
          replace hri := Lib.hid hri
          go_wp2_with fail
          go_ret
          exact ⟨by rw [hre.out] <;> rfl, hm5.out⟩
        | true =>
          have hre := Lib.hid (hre.out.trans (by rw [hri]))
          replace hri := Lib.hid hri
          cases z with
          | false =>
            go_wp2_with fail
            go_ret
            exact ⟨by rw [hre.out] <;> rfl, hm5.out⟩
          | true =>
            go_wp2_with fail
            go_ret
            exact ⟨by rw [hre.out] <;> rfl, hm5.out⟩
      | false =>
        rw [hnn] at q10 hre
        rw [if_neg (by simp)] at hre
        have kO := Lib.hid (fun W (h : Mod none_ wr W) => r06right_ok W e.o L (hE.out.od.mod0 (hm1.trans h)) hL hz.out ta.out tp.out)
        replace hg := Lib.hid hg
        replace hmr := Lib.hid hmr
        replace hdp := Lib.hid hdp
        replace hm1 := Lib.hid hm1
        replace hnn := Lib.hid hnn
        replace hre := Lib.hid hre
        have p0 : wr.cell? ⟨w.heap.size, 0, none⟩ = some (.int .i64 i.r) := b1.cell_ rfl
        have p1 : wr.cell? ⟨w.heap.size, 1, none⟩ = some (.int .i64 i.n) := b1.cell_ rfl
        replace b1 := Lib.hid b1
        replace b2 := Lib.hid b2
        go_wp2_with fail
        refine (kI.out wr).mono ?_
        rintro e' w2 ⟨rfl, hm2⟩
        dsimp only
        have hm3 := Lib.hid (hm1.out.trans hm2)
        have b4 := Lib.hid (b2.out.mod hm2 (fun h => h))
        have kO2 := Lib.hid (kO.out w2 hm2)
        have q11 : w2.cell? ⟨w.heap.size + 1, 10, none⟩ = some (.bool false) := by rw [b4.out.cell_ (v := .bool e.none) rfl, hnn.out]
        have d0 : w2.cell? ⟨w.heap.size + 1, 0, none⟩ = some (.int .i64 e.o.c) := b4.out.cell_ rfl
        have d1 : w2.cell? ⟨w.heap.size + 1, 1, none⟩ = some (.int .i64 e.o.s) := b4.out.cell_ rfl
        have d2 : w2.cell? ⟨w.heap.size + 1, 2, none⟩ = some (.int .i64 e.o.k) := b4.out.cell_ rfl
        have d3 : w2.cell? ⟨w.heap.size + 1, 3, none⟩ = some (.string (txt e.o.acct)) := b4.out.cell_ rfl
        have d4 : w2.cell? ⟨w.heap.size + 1, 4, none⟩ = some (.string (txt e.o.peer)) := b4.out.cell_ rfl
        have d5 : w2.cell? ⟨w.heap.size + 1, 5, none⟩ = some (.int .i64 e.o.sum) := b4.out.cell_ rfl
        have d6 : w2.cell? ⟨w.heap.size + 1, 6, none⟩ = some (.slice L.a L.n L.c) := b4.out.cell_ rfl
        have d7 : w2.cell? ⟨w.heap.size + 1, 7, none⟩ = some (.int .i64 e.o.per) := b4.out.cell_ rfl
        have d8 : w2.cell? ⟨w.heap.size + 1, 8, none⟩ = some (.int .i64 e.o.hold) := b4.out.cell_ rfl
        have d9 : w2.cell? ⟨w.heap.size + 1, 9, none⟩ = some (.string (txt e.o.note)) := b4.out.cell_ rfl
        clear hm2 kO
        cases hri : rightI i with
        | false =>
          have hre := Lib.hid (hre.out.trans (by rw [hri]))
          replace hri := Lib.hid hri
          go_wp2_with fail
          go_ret
          exact ⟨by rw [hre.out] <;> rfl, hm3.out⟩
        | true =>
          have hre := Lib.hid (hre.out.trans (by rw [hri]))
          replace hri := Lib.hid hri
          go_wp2_with fail
          refine kO2.out.mono ?_
          rintro e' w3 ⟨rfl, hm4⟩
          dsimp only
          have hm5 := Lib.hid (hm3.out.trans hm4)
          replace hm4 := Lib.hid hm4
          go_wp2_with fail
          go_ret
          exact ⟨by rw [hre.out] <;> rfl, hm5.out⟩
end Go.Proofs.YtimlfdihodoolaaGreat
