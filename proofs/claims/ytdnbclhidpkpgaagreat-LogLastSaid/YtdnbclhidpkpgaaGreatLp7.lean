import Derived.Test.YtdnbclhidpkpgaaGreatLp4
import Derived.Deep.RegionHeld3
import Derived.Deep.RegionLaw
import Derived.Test.YtdnbclhidpkpgaaGreatLp1
import Derived.Test.YtdnbclhidpkpgaaGreatLp6
import Derived.BigQuiet
import Derived.Deep.LoopGhost
/-
  runner.compare, Ahead, right.
-/
namespace Go.Proofs.YtdnbclhidpkpgaaGreat
set_option linter.unusedVariables false
set_option linter.unusedSimpArgs false
open Go.RowKit
def cmpI (a b : Int) : Int := if a < b then -1 else if b < a then 1 else 0
theorem nan_ok (w : World) (a : Int) : Calls Tryz.prog 140 #[.int .i64 a] w fun e w' => e = .returned (.bool false) ∧ w = w' := by
  go_enter Tryz.func140, Tryz.ntmps140
  go_wp2
  go_ret
  simp
set_option maxRecDepth 100000 in
theorem cmpI_ok (w : World) (a b : Int) : Calls Tryz.prog 109 #[.int .i64 a, .int .i64 b] w fun e w' => e = .returned (.int .i64 (cmpI a b)) ∧ w = w' := by
  rcases (show a < b ∨ b < a ∨ a = b by omega) with h | h | h
  all_goals
    have e1 := decide_eq_true h
    go_enter Tryz.func109, Tryz.ntmps109
    go_wp2_with fail
    with_reducible refine (nan_ok _ _).mono ?_
    rintro e w1 ⟨rfl, rfl⟩
    dsimp only
    go_wp2_with fail
    with_reducible refine (nan_ok _ _).mono ?_
    rintro e w1 ⟨rfl, rfl⟩
    dsimp only
  · have hr : Hid (cmpI a b = -1) := Lib.hid (by unfold cmpI; rw [if_pos h])
    go_wp2_with fail
    go_ret
    exact ⟨by rw [hr.out]; rfl, rfl⟩
  · have hr : Hid (cmpI a b = 1) := Lib.hid (by unfold cmpI; rw [if_neg (by omega), if_pos h])
    have e2 : ¬ a < b := by omega
    go_wp2_with fail
    go_ret
    exact ⟨by rw [hr.out]; rfl, rfl⟩
  · have hr : Hid (cmpI a b = 0) := Lib.hid (by unfold cmpI; rw [if_neg (by omega), if_neg (by omega)])
    have e2 : ¬ a < b := by omega
    have e3 : ¬ b < a := by omega
    clear h e1
    go_wp2_with fail
    go_ret
    exact ⟨by rw [hr.out]; rfl, rfl⟩
theorem rdiN_get {w : World} {A : Option Addr} {n : Nat} {xs : List Int} (h : RdI w A n xs) {j : Nat} (hj : j < n) : ∃ b o, A = some ⟨b, o, none⟩ ∧ ∃ hl : j < xs.length, w.cell? ⟨b, o + j, none⟩ = some (.int .i64 xs[j]) := by
  obtain ⟨b, o, e, hc⟩ := Rd.form h (by omega) (by omega)
  have hl : j < xs.length := by have := h.1; simp [ivs] at this; omega
  exact ⟨b, o, e, hl, hc j _ (by simp [ivs, hl])⟩
set_option maxRecDepth 100000 in
theorem or2_ok (w : World) (b : Nat) (x y : Int) (h : RdI w (some ⟨b, 0, none⟩) 2 [x, y]) : Calls Tryz.prog 108 #[.slice (some ⟨b, 0, none⟩) 2 2] w fun e w' => e = .returned (.int .i64 (if x = 0 then y else x)) ∧ w = w' := by
  obtain ⟨b1, o1, hb1, hl1, h1⟩ := rdiN_get h (j := 0) (by omega)
  obtain ⟨b2, o2, hb2, hl2, h2⟩ := rdiN_get h (j := 1) (by omega)
  cases hb1; cases hb2
  simp only [List.getElem_cons_zero, List.getElem_cons_succ, Nat.zero_add, Nat.add_zero] at h1 h2
  clear h
  by_cases hx : x = 0
  · subst hx
    by_cases hy : y = 0
    · subst hy
      go_enter Tryz.func108, Tryz.ntmps108
      go_wp2_with fail
      go_loopg [8] 2 (fun k v wr => ∃ i : Nat, v = .int .i64 i ∧ i + k = 2 ∧ w = wr)
      case atStart => exact ⟨0, rfl, by omega, rfl⟩
      case round =>
        obtain ⟨i, rfl, hik, rfl⟩ := hrel
        rcases (show i = 0 ∨ i = 1 ∨ i = 2 by omega) with rfl | rfl | rfl
        · go_wp2_with fail
          go_roundg 1
          case measure => omega
          case rel => exact ⟨1, rfl, by omega, rfl⟩
        · go_wp2_with fail
          go_roundg 0
          case measure => omega
          case rel => exact ⟨2, rfl, by omega, rfl⟩
        · go_wp2_with fail
          go_ret
          simp
    · go_enter Tryz.func108, Tryz.ntmps108
      go_wp2_with fail
      go_loopg [8] 2 (fun k v wr => ∃ i : Nat, v = .int .i64 i ∧ i + k = 2 ∧ i ≤ 1 ∧ w = wr)
      case atStart => exact ⟨0, rfl, by omega, by omega, rfl⟩
      case round =>
        obtain ⟨i, rfl, hik, hi1, rfl⟩ := hrel
        rcases (show i = 0 ∨ i = 1 by omega) with rfl | rfl
        · go_wp2_with fail
          go_roundg 1
          case measure => omega
          case rel => exact ⟨1, rfl, by omega, by omega, rfl⟩
        · go_wp2_with fail
          go_ret
          simp
  · go_enter Tryz.func108, Tryz.ntmps108
    go_wp2_with fail
    go_loopg [8] 2 (fun k v wr => v = .int .i64 0 ∧ w = wr)
    case atStart => exact ⟨rfl, rfl⟩
    case round =>
      obtain ⟨rfl, rfl⟩ := hrel
      go_wp2_with fail
      go_ret
      simp [hx]
/-- in which order Insts stand -/
def isLt (a b : Is) : Bool := decide (a.r < b.r ∨ (a.r = b.r ∧ a.n < b.n))
def cmpIs (a b : Is) : Int := if cmpI a.r b.r = 0 then cmpI a.n b.n else cmpI a.r b.r
theorem cmpI_lt {a b : Int} : cmpI a b < 0 ↔ a < b := by
  unfold cmpI
  split
  · omega
  · split <;> omega
theorem cmpI_zero {a b : Int} : cmpI a b = 0 ↔ a = b := by
  unfold cmpI
  split
  · omega
  · split <;> omega
theorem cmpIs_lt (a b : Is) : decide (cmpIs a b < 0) = isLt a b := by
  unfold cmpIs isLt
  rw [decide_eq_decide]
  split <;> rename_i h
  · rw [cmpI_zero] at h
    rw [cmpI_lt]; omega
  · rw [cmpI_zero] at h
    rw [cmpI_lt]; omega
set_option maxRecDepth 100000 in
set_option maxHeartbeats 4000000 in
theorem compare_ok (w : World) (a b : Is) : Calls Tryz.prog 94 #[.agg #[.int .i64 a.r, .int .i64 a.n], .agg #[.int .i64 b.r, .int .i64 b.n]] w fun e w' => e = .returned (.int .i64 (cmpIs a b)) ∧ Mod none_ w w' := by
  obtain ⟨ar, an⟩ := a
  obtain ⟨br, bn⟩ := b
  dsimp only
  have h0 : Mod none_ w (((w.alloc (.cells #[.int .i64 ar, .int .i64 an] 25)).alloc (.cells #[.int .i64 br, .int .i64 bn] 25)).drew) := (((Mod.refl none_ w).alloc _).alloc _).drew
  have kC := Lib.hid (fun W a b => cmpI_ok W a b)
  obtain ⟨z, hz⟩ : ∃ z, cmpIs ⟨ar, an⟩ ⟨br, bn⟩ = z := ⟨_, rfl⟩
  rw [hz]
  have kO := Lib.hid (fun W b h => show Calls Tryz.prog 108 #[.slice (some ⟨b, 0, none⟩) 2 2] W (fun e w' => e = .returned (.int .i64 z) ∧ W = w') from by
    rw [← hz]; exact or2_ok W b (cmpI ar br) (cmpI an bn) h)
  clear hz
  replace h0 := Lib.hid h0
  go_enter Tryz.func94, Tryz.ntmps94
  go_wp2_with fail
  go_region_held3 (fun W => W.cell? ⟨w.heap.size, 0, none⟩ = some (.int .i64 ar) ∧ W.cell? ⟨w.heap.size, 1, none⟩ = some (.int .i64 an) ∧ W.cell? ⟨w.heap.size + 1, 0, none⟩ = some (.int .i64 br) ∧ W.cell? ⟨w.heap.size + 1, 1, none⟩ = some (.int .i64 bn)) (go_keep)
    (first | (go_at_call 109; with_reducible refine (kC.out _ _ _).mono ?_; rintro e w1 ⟨rfl, rfl⟩) | (go_at_call 108; refine (kO.out _ _ (by show RdI _ _ _ _; exact rdn _ _ 1 2 _ _ (0, 0) (by simp) rfl)).mono ?_; rintro e w1 ⟨rfl, rfl⟩))
  go_wp2_with fail
  go_ret
  exact ⟨rfl, ((((Mod.refl none_ w).alloc _).alloc _).alloc _).drew⟩
set_option maxRecDepth 100000 in
theorem ahead_ok (w : World) (a b : Is) : Calls Tryz.prog 64 #[.agg #[.int .i64 a.r, .int .i64 a.n], .agg #[.int .i64 b.r, .int .i64 b.n]] w fun e w' => e = .returned (.bool (isLt a b)) ∧ Mod none_ w w' := by
  have kC := Lib.hid (fun W => compare_ok W a b)
  have hz := cmpIs_lt a b
  generalize cmpIs a b = z at *
  replace hz := Lib.hid hz
  go_enter Tryz.func64, Tryz.ntmps64
  go_wp2_with fail
  with_reducible refine (kC.out _).mono ?_
  rintro e w1 ⟨rfl, hm⟩
  dsimp only
  have hm1 := (((Mod.refl none_ w).alloc _).alloc _).trans hm
  replace hm := Lib.hid hm
  replace hm1 := Lib.hid hm1
  go_wp2_with fail
  go_ret
  exact ⟨by rw [← hz.out]; rfl, hm1.out⟩
def rightI (a : Is) : Bool := decide (0 ≤ a.r ∧ a.r ≤ 6 ∧ 1 ≤ a.n ∧ a.n ≤ 10000)
set_option maxRecDepth 100000 in
theorem rightI_ok (w : World) (a : Is) : Calls Tryz.prog 87 #[.agg #[.int .i64 a.r, .int .i64 a.n]] w fun e w' => e = .returned (.bool (rightI a)) ∧ Mod none_ w w' := by
  obtain ⟨ar, an⟩ := a
  have hr : Hid (rightI ⟨ar, an⟩ = decide (0 ≤ ar ∧ ar ≤ 6 ∧ 1 ≤ an ∧ an ≤ 10000)) := Lib.hid rfl
  dsimp only
  go_enter Tryz.func87, Tryz.ntmps87
  go_wp2_with fail
  all_goals
    go_ret
    refine ⟨?_, (Mod.refl none_ w).alloc _⟩
    rw [hr.out]
    first | (simp_all; done) | (simp; omega)
end Go.Proofs.YtdnbclhidpkpgaaGreat
/-
  A region that draws its order, whose own operations only read, and whose callees leave a world of a class 'D': walked once, in the order of the text. The class's worlds are the letters 's.W'. No condition.
-/
namespace Go.Proofs.YtdnbclhidpkpgaaGreat
set_option linter.unusedVariables false
set_option linter.unusedSimpArgs false
open Go.RowKit
/-- a world of a class, with the word for it -/
structure Cls (D : World → Prop) where
  W : World
  ok : D W
theorem wp_region_cls {P : Program} {id : Nat} {Q : Exit → Act → World → Prop} {a : Act} {w : World} {l : List Oper} (D : World → Prop) (hm : P.follows .mixedOrders = true) (hB : Region.lexB .any l.toArray = true) (hC : D w.drew)
    (h : wpQuiet P l.toArray (fun w' => ∃ s : Cls D, w' = s.W) (fun a' => ∀ w', (∃ s : Cls D, w' = s.W) → Q .normal a' w') l a) : (Code.region id l.toArray true).wp P Q a w :=
  wp_region_quiet (C := fun w' => ∃ s : Cls D, w' = s.W) hm hB ⟨⟨_, hC⟩, rfl⟩ (by simpa using h)
theorem cls_of {P : Program} {D : World → Prop} {f : FuncId} {args : Array Value} {w : World} {v : Value}
    (h : Calls P f args w fun e w' => e = .returned v ∧ D w') : Calls P f args w fun e w'' => e = .returned v ∧ ∃ t : Cls D, w'' = t.W :=
  h.mono fun _ _ ⟨he, hd⟩ => ⟨he, ⟨_, hd⟩, rfl⟩
end Go.Proofs.YtdnbclhidpkpgaaGreat
/-
  runner.Right.
-/
namespace Go.Proofs.YtdnbclhidpkpgaaGreat
set_option linter.unusedVariables false
set_option linter.unusedSimpArgs false
open Go.RowKit
def goodD (i : Is) (ds : List Is) (j : Nat) : Bool :=
  match ds[j]? with
  | none => true
  | some d => rightI d && !decide (d = i) && (decide (j = 0) || match ds[j - 1]? with | none => true | some p => isLt p d)
def depsB (i : Is) (ds : List Is) : Bool := (List.range ds.length).all (goodD i ds)
def rightE (i : Is) (e : En) : Bool := depsB i e.deps && (rightI i && (if e.none then decide (e.o = od0) else rightO e.o))
theorem depsB_no {i : Is} {ds : List Is} {j : Nat} (hj : j < ds.length) (h : goodD i ds j = false) : depsB i ds = false := by
  unfold depsB
  rw [List.all_eq_false]
  exact ⟨j, List.mem_range.2 hj, by rw [h]; simp⟩
theorem depsB_yes {i : Is} {ds : List Is} (h : ∀ j, j < ds.length → goodD i ds j = true) : depsB i ds = true := by
  unfold depsB
  rw [List.all_eq_true]
  exact fun j hj => h j (List.mem_range.1 hj)
set_option maxRecDepth 100000 in
set_option maxHeartbeats 8000000 in
theorem rightE_ok (w : World) (i : Is) (e : En) (L D : SV) (hE : EnM w e L D) (hL : L.n ≤ 140737488355328) (hDn : D.n ≤ 140737488355328) (hk : (Lit.int .i64 e.o.k).wf = true) (hz : ∀ l ∈ e.o.legs, (txt l.n).size ≤ maxLen) :
    Calls Tryz.prog 56 #[.agg #[.int .i64 i.r, .int .i64 i.n], .agg #[.int .i64 e.o.c, .int .i64 e.o.s, .int .i64 e.o.k, .string (txt e.o.acct), .string (txt e.o.peer), .int .i64 e.o.sum, .slice L.a L.n L.c, .int .i64 e.o.per, .int .i64 e.o.hold, .string (txt e.o.note), .bool e.none, .slice D.a D.n D.c]] w fun e' w' => e' = .returned (.bool (rightE i e)) ∧ Mod none_ w w' := by
  obtain ⟨DA, n, Dc⟩ := D
  dsimp only at hDn ⊢
  have kR := Lib.hid (fun W a => rightI_ok W a)
  have kA := Lib.hid (fun W a b => ahead_ok W a b)
  have hlen := hE.rd.len
  have hrd := hE.rd
  dsimp only at hlen hrd
  have hB1 : Blk ((w.alloc (.cells #[.int .i64 i.r, .int .i64 i.n] 25)).alloc (.cells #[.int .i64 e.o.c, .int .i64 e.o.s, .int .i64 e.o.k, .string (txt e.o.acct), .string (txt e.o.peer), .int .i64 e.o.sum, .slice L.a L.n L.c, .int .i64 e.o.per, .int .i64 e.o.hold, .string (txt e.o.note), .bool e.none, .slice DA n Dc] 33)) w.heap.size 25 #[.int .i64 i.r, .int .i64 i.n] := (Blk.new w _ _).alloc _
  have hB2 : Blk ((w.alloc (.cells #[.int .i64 i.r, .int .i64 i.n] 25)).alloc (.cells #[.int .i64 e.o.c, .int .i64 e.o.s, .int .i64 e.o.k, .string (txt e.o.acct), .string (txt e.o.peer), .int .i64 e.o.sum, .slice L.a L.n L.c, .int .i64 e.o.per, .int .i64 e.o.hold, .string (txt e.o.note), .bool e.none, .slice DA n Dc] 33)) (w.heap.size + 1) 33 #[.int .i64 e.o.c, .int .i64 e.o.s, .int .i64 e.o.k, .string (txt e.o.acct), .string (txt e.o.peer), .int .i64 e.o.sum, .slice L.a L.n L.c, .int .i64 e.o.per, .int .i64 e.o.hold, .string (txt e.o.note), .bool e.none, .slice DA n Dc] := heap_alloc2_new w _ _
  have hm0 := ((Mod.refl none_ w).alloc (.cells #[.int .i64 i.r, .int .i64 i.n] 25)).alloc (.cells #[.int .i64 e.o.c, .int .i64 e.o.s, .int .i64 e.o.k, .string (txt e.o.acct), .string (txt e.o.peer), .int .i64 e.o.sum, .slice L.a L.n L.c, .int .i64 e.o.per, .int .i64 e.o.hold, .string (txt e.o.note), .bool e.none, .slice DA n Dc] 33)
  obtain ⟨wB, hwB⟩ : ∃ wB, (w.alloc (.cells #[.int .i64 i.r, .int .i64 i.n] 25)).alloc (.cells #[.int .i64 e.o.c, .int .i64 e.o.s, .int .i64 e.o.k, .string (txt e.o.acct), .string (txt e.o.peer), .int .i64 e.o.sum, .slice L.a L.n L.c, .int .i64 e.o.per, .int .i64 e.o.hold, .string (txt e.o.note), .bool e.none, .slice DA n Dc] 33) = wB := ⟨_, rfl⟩
  rw [hwB] at hB1 hB2 hm0
  replace hE := Lib.hid hE
  replace hB1 := Lib.hid hB1
  replace hB2 := Lib.hid hB2
  replace hm0 := Lib.hid hm0
  replace hlen := Lib.hid hlen
  replace hk := Lib.hid hk
  replace hz := Lib.hid hz
  replace hwB := Lib.hid hwB
  replace hrd := Lib.hid hrd
  go_enter Tryz.func56, Tryz.ntmps56
  go_wp2_with fail
  rw [hwB.out]
  go_loopg [10] n (fun k x wr => ∃ j : Nat, x = .int .i64 j ∧ j + k = n ∧ (∀ j', j' < j → goodD i e.deps j' = true) ∧ Mod none_ wB wr)
  case atStart => exact ⟨0, rfl, by omega, fun j' h => absurd h (Nat.not_lt_zero _), Mod.refl _ _⟩
  case round =>
    obtain ⟨j, rfl, hj, hg, hmr⟩ := hrel
    by_cases hlt : j < n
    · obtain ⟨b, o, d, rfl, hmem, hdj, y1, y2⟩ := rdp_get (hrd.out.mod0 (hm0.out.trans hmr)) hlt
      obtain ⟨dr, dn⟩ := d
      dsimp only at y1 y2
      have hjl : j < e.deps.length := by rw [hlen.out]; exact hlt
      have hwA := hmr.alloc (.cells #[.int .i64 dr, .int .i64 dn] 25)
      have hI := Blk.new wr 25 #[.int .i64 dr, .int .i64 dn]
      have b1 := (hB1.out.mod hmr (fun h => h)).alloc (.cells #[.int .i64 dr, .int .i64 dn] 25)
      have b2 := (hB2.out.mod hmr (fun h => h)).alloc (.cells #[.int .i64 dr, .int .i64 dn] 25)
      have rd1 := (hrd.out.mod0 (hm0.out.trans hmr)).mod0 ((Mod.refl none_ wr).alloc (.cells #[.int .i64 dr, .int .i64 dn] 25))
      have hne : Nonempty (Cls (Mod none_ (wr.alloc (.cells #[.int .i64 dr, .int .i64 dn] 25)))) := ⟨⟨_, Mod.refl _ _⟩⟩
      have g0 : ∀ s : Cls (Mod none_ (wr.alloc (.cells #[.int .i64 dr, .int .i64 dn] 25))), s.W.cell? ⟨wr.heap.size, 0, none⟩ = some (.int .i64 dr) := fun s => (hI.mod s.ok (fun h => h)).cell_ rfl
      have g1 : ∀ s : Cls (Mod none_ (wr.alloc (.cells #[.int .i64 dr, .int .i64 dn] 25))), s.W.cell? ⟨wr.heap.size, 1, none⟩ = some (.int .i64 dn) := fun s => (hI.mod s.ok (fun h => h)).cell_ rfl
      have g2 : ∀ s : Cls (Mod none_ (wr.alloc (.cells #[.int .i64 dr, .int .i64 dn] 25))), s.W.cell? ⟨w.heap.size, 0, none⟩ = some (.int .i64 i.r) := fun s => (b1.mod s.ok (fun h => h)).cell_ rfl
      have g3 : ∀ s : Cls (Mod none_ (wr.alloc (.cells #[.int .i64 dr, .int .i64 dn] 25))), s.W.cell? ⟨w.heap.size, 1, none⟩ = some (.int .i64 i.n) := fun s => (b1.mod s.ok (fun h => h)).cell_ rfl
      have g4 : ∀ s : Cls (Mod none_ (wr.alloc (.cells #[.int .i64 dr, .int .i64 dn] 25))), s.W.cell? ⟨w.heap.size + 1, 11, none⟩ = some (.slice (some ⟨b, o, none⟩) n Dc) := fun s => (b2.mod s.ok (fun h => h)).cell_ rfl
      have kc := Lib.hid (fun s : Cls (Mod none_ (wr.alloc (.cells #[.int .i64 dr, .int .i64 dn] 25))) => (kR.out s.W ⟨dr, dn⟩).mono (fun e w' (h : _ ∧ _) => (⟨h.1, s.ok.trans h.2⟩ : _ ∧ Mod none_ (wr.alloc (.cells #[.int .i64 dr, .int .i64 dn] 25)) w')))
      have hei := fun W => eql_is W ⟨dr, dn⟩ i
      unfold isV at hei
      dsimp only at hei
      have hgj : goodD i e.deps j = (rightI ⟨dr, dn⟩ && !decide ((⟨dr, dn⟩ : Is) = i) && (decide (j = 0) || match e.deps[j - 1]? with | none => true | some p => isLt p ⟨dr, dn⟩)) := by unfold goodD; rw [hdj]
      have hnx : goodD i e.deps j = true → ∀ j', j' < j + 1 → goodD i e.deps j' = true := fun h j' hj' => by
        by_cases e1 : j' = j
        · subst e1; exact h
        · exact hg j' (by omega)
      replace hI := Lib.hid hI
      replace b1 := Lib.hid b1
      replace b2 := Lib.hid b2
      cases hr : rightI ⟨dr, dn⟩ with
      | false =>
        rw [hr] at kc
        have hno := depsB_no hjl (by rw [hgj, hr]; rfl)
        have ka := kc
        clear hgj hnx
        replace rd1 := Lib.hid rd1
        replace hr := Lib.hid hr
        replace hno := Lib.hid hno
        replace hwA := Lib.hid hwA
        replace hg := Lib.hid hg
        replace hmr := Lib.hid hmr
        replace hdj := Lib.hid hdj
        go_wp2_with fail
        refine wp_region_cls (Mod none_ (wr.alloc (.cells #[.int .i64 dr, .int .i64 dn] 25))) (by kernel_rfl) (by kernel_rfl) (Mod.refl none_ _).drew ?_
        repeat (go_big_quiet_step (first | (go_at_call 87; exact cls_of (kc.out _)) | (go_at_call 64; exact cls_of (ka.out _))))
        refine wpQuiet_nil ?_
        rintro _ ⟨⟨W, hW⟩, rfl⟩
        replace hW := Lib.hid (hm0.out.trans (hwA.out.trans hW))
        go_wp2_with fail
        go_ret
        refine ⟨?_, hW.out⟩
        rw [show rightE i e = false by unfold rightE; rw [hno.out]; rfl]; rfl
      | true =>
        rw [hr] at kc
        by_cases hdi : (⟨dr, dn⟩ : Is) = i
        · rw [decide_eq_true hdi] at hei
          have hno := depsB_no hjl (by rw [hgj, hr, decide_eq_true hdi]; rfl)
          have ka := kc
          clear hgj hnx
          replace rd1 := Lib.hid rd1
          replace hr := Lib.hid hr
          replace hdi := Lib.hid hdi
          replace hno := Lib.hid hno
          replace hwA := Lib.hid hwA
          replace hg := Lib.hid hg
          replace hmr := Lib.hid hmr
          replace hdj := Lib.hid hdj
          go_wp2_with fail
          refine wp_region_cls (Mod none_ (wr.alloc (.cells #[.int .i64 dr, .int .i64 dn] 25))) (by kernel_rfl) (by kernel_rfl) (Mod.refl none_ _).drew ?_
          repeat (go_big_quiet_step (first | (go_at_call 87; exact cls_of (kc.out _)) | (go_at_call 64; exact cls_of (ka.out _))))
          refine wpQuiet_nil ?_
          rintro _ ⟨⟨W, hW⟩, rfl⟩
          replace hW := Lib.hid (hm0.out.trans (hwA.out.trans hW))
          go_wp2_with fail
          go_ret
          refine ⟨?_, hW.out⟩
          rw [show rightE i e = false by unfold rightE; rw [hno.out]; rfl]; rfl
        · rw [decide_eq_false hdi] at hei
          by_cases hj0 : j = 0
          · have hyes := hnx (by rw [hgj, hr, decide_eq_false hdi, decide_eq_true hj0]; rfl)
            have ka := kc
            clear hgj hnx
            replace rd1 := Lib.hid rd1
            replace hr := Lib.hid hr
            replace hdi := Lib.hid hdi
            subst hj0
            simp only [Nat.zero_mul, Nat.add_zero] at y1 y2
            replace hyes := Lib.hid hyes
            replace hwA := Lib.hid hwA
            replace hg := Lib.hid hg
            replace hmr := Lib.hid hmr
            replace hdj := Lib.hid hdj
            go_wp2_with fail
            refine wp_region_cls (Mod none_ (wr.alloc (.cells #[.int .i64 dr, .int .i64 dn] 25))) (by kernel_rfl) (by kernel_rfl) (Mod.refl none_ _).drew ?_
            repeat (go_big_quiet_step (first | (go_at_call 87; exact cls_of (kc.out _)) | (go_at_call 64; exact cls_of (ka.out _))))
            refine wpQuiet_nil ?_
            rintro _ ⟨⟨W, hW⟩, rfl⟩
            replace hW := Lib.hid (hwA.out.trans hW)
            go_wp2_with fail
            go_roundg (gk - 1)
            case measure => omega
            case rel => exact ⟨0 + 1, by go_num, by omega, hyes.out, hW.out⟩
          · obtain ⟨j1, rfl⟩ : ∃ j1, j = j1 + 1 := ⟨j - 1, by omega⟩
            obtain ⟨b', o', p, hbo, hmp, hdp, z1, z2⟩ := rdp_get rd1 (j := j1) (by omega)
            cases hbo
            obtain ⟨pr, pn⟩ := p
            dsimp only at z1 z2
            have g5 : ∀ s : Cls (Mod none_ (wr.alloc (.cells #[.int .i64 dr, .int .i64 dn] 25))), s.W.cell? ⟨b, o + j1*2, none⟩ = some (.int .i64 pr) := fun s => s.ok.cell_some z1 (fun h => h)
            have g6 : ∀ s : Cls (Mod none_ (wr.alloc (.cells #[.int .i64 dr, .int .i64 dn] 25))), s.W.cell? ⟨b, o + j1*2 + 1, none⟩ = some (.int .i64 pn) := fun s => s.ok.cell_some z2 (fun h => h)
            clear z1 z2
            have ka := Lib.hid (fun s : Cls (Mod none_ (wr.alloc (.cells #[.int .i64 dr, .int .i64 dn] 25))) => (kA.out s.W ⟨pr, pn⟩ ⟨dr, dn⟩).mono (fun e w' (h : _ ∧ _) => (⟨h.1, s.ok.trans h.2⟩ : _ ∧ Mod none_ (wr.alloc (.cells #[.int .i64 dr, .int .i64 dn] 25)) w')))
            rw [show j1 + 1 - 1 = j1 from rfl, hdp] at hgj
            dsimp only at hgj
            have hw1 : wrap64 (((j1 + 1 : Nat) : Int) - 1) = (j1 : Int) := by unfold wrap64; omega
            have hw2 : IntKind.i64.wrap (((j1 + 1 : Nat) : Int) - 1) = (j1 : Int) := by rw [IntKind.wrap_i64]; omega
            have hw3 : ((j1 : Int) + 1 - 1) = (j1 : Int) := by omega
            have hu1 : (0 : Int) ≤ (j1 : Int) := by omega
            have hu2 : (j1 : Int) < (n : Int) := by omega
            cases hlt2 : isLt ⟨pr, pn⟩ ⟨dr, dn⟩ with
            | false =>
              rw [hlt2] at ka
              have hno := depsB_no hjl (by rw [hgj, hr, decide_eq_false hdi, hlt2]; rfl)
              clear hgj hnx
              replace rd1 := Lib.hid rd1
              replace hr := Lib.hid hr
              replace hdi := Lib.hid hdi
              replace hdp := Lib.hid hdp
              replace hmp := Lib.hid hmp
              replace hlt2 := Lib.hid hlt2
              replace hno := Lib.hid hno
              replace hwA := Lib.hid hwA
              replace hg := Lib.hid hg
              replace hmr := Lib.hid hmr
              replace hdj := Lib.hid hdj
              go_wp2_with fail
              refine wp_region_cls (Mod none_ (wr.alloc (.cells #[.int .i64 dr, .int .i64 dn] 25))) (by kernel_rfl) (by kernel_rfl) (Mod.refl none_ _).drew ?_
              repeat (go_big_quiet_step (first | (go_at_call 87; exact cls_of (kc.out _)) | (go_at_call 64; exact cls_of (ka.out _))))
              refine wpQuiet_nil ?_
              rintro _ ⟨⟨W, hW⟩, rfl⟩
              replace hW := Lib.hid (hm0.out.trans (hwA.out.trans hW))
              go_wp2_with fail
              go_ret
              refine ⟨?_, hW.out⟩
              rw [show rightE i e = false by unfold rightE; rw [hno.out]; rfl]; rfl
            | true =>
              rw [hlt2] at ka
              have hyes := hnx (by rw [hgj, hr, decide_eq_false hdi, hlt2]; simp)
              clear hgj hnx
              replace rd1 := Lib.hid rd1
              replace hr := Lib.hid hr
              replace hdi := Lib.hid hdi
              replace hdp := Lib.hid hdp
              replace hmp := Lib.hid hmp
              replace hlt2 := Lib.hid hlt2
              replace hyes := Lib.hid hyes
              replace hwA := Lib.hid hwA
              replace hg := Lib.hid hg
              replace hmr := Lib.hid hmr
              replace hdj := Lib.hid hdj
              go_wp2_with fail
              refine wp_region_cls (Mod none_ (wr.alloc (.cells #[.int .i64 dr, .int .i64 dn] 25))) (by kernel_rfl) (by kernel_rfl) (Mod.refl none_ _).drew ?_
              repeat (go_big_quiet_step (first | (go_at_call 87; exact cls_of (kc.out _)) | (go_at_call 64; exact cls_of (ka.out _))))
              refine wpQuiet_nil ?_
              rintro _ ⟨⟨W, hW⟩, rfl⟩
              replace hW := Lib.hid (hwA.out.trans hW)
              go_wp2_with fail
              go_roundg (gk - 1)
              case measure => omega
              case rel => exact ⟨j1 + 1 + 1, by go_num, by omega, hyes.out, hW.out⟩
    · obtain rfl : j = n := by omega
      have hdp : depsB i e.deps = true := depsB_yes fun j' h => hg j' (by rw [hlen.out] at h; exact h)
      have hB3 := hB1.out.mod hmr (fun h => h)
      have hB4 := hB2.out.mod hmr (fun h => h)
      have hm1 := hm0.out.trans hmr
      have p0 : wr.cell? ⟨w.heap.size, 0, none⟩ = some (.int .i64 i.r) := hB3.cell_ rfl
      have p1 : wr.cell? ⟨w.heap.size, 1, none⟩ = some (.int .i64 i.n) := hB3.cell_ rfl
      have q10 : wr.cell? ⟨w.heap.size + 1, 10, none⟩ = some (.bool e.none) := hB4.cell_ rfl
      have kI := Lib.hid (kR.out wr i)
      have hre : rightE i e = (rightI i && (if e.none then decide (e.o = od0) else rightO e.o)) := by unfold rightE; rw [hdp]; rfl
      cases hnn : e.none with
      | true =>
        rw [hnn] at q10 hre
        rw [if_pos rfl] at hre
        have kS := Lib.hid (fun W (h : Mod none_ w W) => sameO_ok W e.o od0 L ⟨none, 0, 0⟩ (hE.out.od.mod0 h) (od0_mem W) hL (by decide))
        replace hg := Lib.hid hg
        replace hmr := Lib.hid hmr
        replace hdp := Lib.hid hdp
        replace hB3 := Lib.hid hB3
        replace hB4 := Lib.hid hB4
        replace hm1 := Lib.hid hm1
        replace hnn := Lib.hid hnn
        replace hre := Lib.hid hre
        go_wp2_with fail
        with_reducible refine kI.out.mono ?_
        rintro e' w2 ⟨rfl, hm2⟩
        dsimp only
        have hB5 := hB4.out.mod hm2 (fun h => h)
        have d0 : w2.cell? ⟨w.heap.size + 1, 0, none⟩ = some (.int .i64 e.o.c) := hB5.cell_ rfl
        have d1 : w2.cell? ⟨w.heap.size + 1, 1, none⟩ = some (.int .i64 e.o.s) := hB5.cell_ rfl
        have d2 : w2.cell? ⟨w.heap.size + 1, 2, none⟩ = some (.int .i64 e.o.k) := hB5.cell_ rfl
        have d3 : w2.cell? ⟨w.heap.size + 1, 3, none⟩ = some (.string (txt e.o.acct)) := hB5.cell_ rfl
        have d4 : w2.cell? ⟨w.heap.size + 1, 4, none⟩ = some (.string (txt e.o.peer)) := hB5.cell_ rfl
        have d5 : w2.cell? ⟨w.heap.size + 1, 5, none⟩ = some (.int .i64 e.o.sum) := hB5.cell_ rfl
        have d6 : w2.cell? ⟨w.heap.size + 1, 6, none⟩ = some (.slice L.a L.n L.c) := hB5.cell_ rfl
        have d7 : w2.cell? ⟨w.heap.size + 1, 7, none⟩ = some (.int .i64 e.o.per) := hB5.cell_ rfl
        have d8 : w2.cell? ⟨w.heap.size + 1, 8, none⟩ = some (.int .i64 e.o.hold) := hB5.cell_ rfl
        have d9 : w2.cell? ⟨w.heap.size + 1, 9, none⟩ = some (.string (txt e.o.note)) := hB5.cell_ rfl
        have hm3 := Lib.hid (hm1.out.trans hm2)
        have kS2 := Lib.hid (kS.out w2 hm3.out)
        clear hm2
        replace hB5 := Lib.hid hB5
        cases hri : rightI i with
        | false =>
          have hre := Lib.hid (hre.out.trans (by rw [hri]))
          replace hri := Lib.hid hri
          go_wp2_with fail
          go_ret
          exact ⟨by rw [hre.out]; rfl, hm3.out⟩
        | true =>
          have hre := Lib.hid (hre.out.trans (by rw [hri]))
          replace hri := Lib.hid hri
          go_wp2_with fail
          refine kS2.out.mono ?_
          rintro e' w3 ⟨rfl, hm4⟩
          dsimp only
          have hm5 := Lib.hid (hm3.out.trans hm4)
          replace hm4 := Lib.hid hm4
          go_wp2_with fail
          go_ret
          exact ⟨by rw [hre.out]; rfl, hm5.out⟩
      | false =>
        rw [hnn] at q10 hre
        rw [if_neg (by simp)] at hre
        have kS := Lib.hid (fun W (h : Mod none_ w W) => rightO_ok W e.o L (hE.out.od.mod0 h) hL hk.out hz.out)
        replace hg := Lib.hid hg
        replace hmr := Lib.hid hmr
        replace hdp := Lib.hid hdp
        replace hB3 := Lib.hid hB3
        replace hB4 := Lib.hid hB4
        replace hm1 := Lib.hid hm1
        replace hnn := Lib.hid hnn
        replace hre := Lib.hid hre
        go_wp2_with fail
        with_reducible refine kI.out.mono ?_
        rintro e' w2 ⟨rfl, hm2⟩
        dsimp only
        have hB5 := hB4.out.mod hm2 (fun h => h)
        have d0 : w2.cell? ⟨w.heap.size + 1, 0, none⟩ = some (.int .i64 e.o.c) := hB5.cell_ rfl
        have d1 : w2.cell? ⟨w.heap.size + 1, 1, none⟩ = some (.int .i64 e.o.s) := hB5.cell_ rfl
        have d2 : w2.cell? ⟨w.heap.size + 1, 2, none⟩ = some (.int .i64 e.o.k) := hB5.cell_ rfl
        have d3 : w2.cell? ⟨w.heap.size + 1, 3, none⟩ = some (.string (txt e.o.acct)) := hB5.cell_ rfl
        have d4 : w2.cell? ⟨w.heap.size + 1, 4, none⟩ = some (.string (txt e.o.peer)) := hB5.cell_ rfl
        have d5 : w2.cell? ⟨w.heap.size + 1, 5, none⟩ = some (.int .i64 e.o.sum) := hB5.cell_ rfl
        have d6 : w2.cell? ⟨w.heap.size + 1, 6, none⟩ = some (.slice L.a L.n L.c) := hB5.cell_ rfl
        have d7 : w2.cell? ⟨w.heap.size + 1, 7, none⟩ = some (.int .i64 e.o.per) := hB5.cell_ rfl
        have d8 : w2.cell? ⟨w.heap.size + 1, 8, none⟩ = some (.int .i64 e.o.hold) := hB5.cell_ rfl
        have d9 : w2.cell? ⟨w.heap.size + 1, 9, none⟩ = some (.string (txt e.o.note)) := hB5.cell_ rfl
        have hm3 := Lib.hid (hm1.out.trans hm2)
        have kS2 := Lib.hid (kS.out w2 hm3.out)
        clear hm2
        replace hB5 := Lib.hid hB5
        cases hri : rightI i with
        | false =>
          have hre := Lib.hid (hre.out.trans (by rw [hri]))
          replace hri := Lib.hid hri
          go_wp2_with fail
          go_ret
          exact ⟨by rw [hre.out]; rfl, hm3.out⟩
        | true =>
          have hre := Lib.hid (hre.out.trans (by rw [hri]))
          replace hri := Lib.hid hri
          go_wp2_with fail
          with_reducible refine kS2.out.mono ?_
          rintro e' w3 ⟨rfl, hm4⟩
          dsimp only
          have hm5 := Lib.hid (hm3.out.trans hm4)
          replace hm4 := Lib.hid hm4
          go_wp2_with fail
          go_ret
          exact ⟨by rw [hre.out]; rfl, hm5.out⟩
end Go.Proofs.YtdnbclhidpkpgaaGreat
/-
  log.Right.
-/
namespace Go.Proofs.YtdnbclhidpkpgaaGreat
set_option linter.unusedVariables false
set_option linter.unusedSimpArgs false
open Go.RowKit
def slotB (r : Rc) : Bool := decide (0 ≤ r.bal ∧ r.bal ≤ 1000000 ∧ 0 ≤ r.by_ ∧ r.by_ ≤ r.bal)
def stateB (r : Rc) : Bool :=
  if r.st = 0 then decide (r.by_ = 0) && decide (r.e = en0)
  else if r.st = 1 ∨ r.st = 2 ∨ r.st = 3 then decide (r.e.deps.length ≤ 100) && rightE r.i r.e
  else false
def rightR (r : Rc) : Bool := rightI r.i && (slotB r && stateB r)
theorem rightE_none (i : Is) : rightE i ⟨od0, true, []⟩ = rightI i := by
  unfold rightE depsB
  simp
set_option maxRecDepth 100000 in
set_option maxHeartbeats 8000000 in
theorem rightR_ok (w : World) (r : Rc) (L D : SV) (hE : EnM w r.e L D) (hL : L.n ≤ 140737488355328) (hD : D.n ≤ 140737488355328) (hk : (Lit.int .i64 r.e.o.k).wf = true) (hz : ∀ l ∈ r.e.o.legs, (txt l.n).size ≤ maxLen) :
    Calls Tryz.prog 23 #[.agg #[.int .i64 r.i.r, .int .i64 r.i.n, .int .i64 r.bal, .int .i64 r.st, .int .i64 r.by_, .int .i64 r.e.o.c, .int .i64 r.e.o.s, .int .i64 r.e.o.k, .string (txt r.e.o.acct), .string (txt r.e.o.peer), .int .i64 r.e.o.sum, .slice L.a L.n L.c, .int .i64 r.e.o.per, .int .i64 r.e.o.hold, .string (txt r.e.o.note), .bool r.e.none, .slice D.a D.n D.c]] w fun e' w' => e' = .returned (.bool (rightR r)) ∧ Mod none_ w w' := by
  have k1 := Lib.hid (fun W => rightE_ok W r.i ⟨od0, true, []⟩ ⟨none, 0, 0⟩ ⟨none, 0, 0⟩ ⟨od0_mem W, Rd.none_, Nat.le_refl _⟩ (by decide) (by decide) (by decide) (fun l h => by cases h))
  rw [rightE_none] at k1
  have k2 := Lib.hid (fun W (h : Mod none_ w W) => rightE_ok W r.i r.e L D (hE.mod0 h) hL hD hk hz)
  have k3 := Lib.hid (fun W (h : Mod none_ w W) => sameE_ok W r.e en0 L D ⟨none, 0, 0⟩ ⟨none, 0, 0⟩ (hE.mod0 h) (en0_mem W) hL hD (by decide) (by decide))
  have hlen := hE.rd.len
  have hB1 : Blk ((w.alloc (.cells #[.int .i64 r.i.r, .int .i64 r.i.n, .int .i64 r.bal, .int .i64 r.st, .int .i64 r.by_, .int .i64 r.e.o.c, .int .i64 r.e.o.s, .int .i64 r.e.o.k, .string (txt r.e.o.acct), .string (txt r.e.o.peer), .int .i64 r.e.o.sum, .slice L.a L.n L.c, .int .i64 r.e.o.per, .int .i64 r.e.o.hold, .string (txt r.e.o.note), .bool r.e.none, .slice D.a D.n D.c] 37)).alloc (.cells #[.int .i64 r.bal, .int .i64 r.st, .int .i64 r.by_, .int .i64 r.e.o.c, .int .i64 r.e.o.s, .int .i64 r.e.o.k, .string (txt r.e.o.acct), .string (txt r.e.o.peer), .int .i64 r.e.o.sum, .slice L.a L.n L.c, .int .i64 r.e.o.per, .int .i64 r.e.o.hold, .string (txt r.e.o.note), .bool r.e.none, .slice D.a D.n D.c] 35)) w.heap.size 37 #[.int .i64 r.i.r, .int .i64 r.i.n, .int .i64 r.bal, .int .i64 r.st, .int .i64 r.by_, .int .i64 r.e.o.c, .int .i64 r.e.o.s, .int .i64 r.e.o.k, .string (txt r.e.o.acct), .string (txt r.e.o.peer), .int .i64 r.e.o.sum, .slice L.a L.n L.c, .int .i64 r.e.o.per, .int .i64 r.e.o.hold, .string (txt r.e.o.note), .bool r.e.none, .slice D.a D.n D.c] := (Blk.new w _ _).alloc _
  have hB2 : Blk ((w.alloc (.cells #[.int .i64 r.i.r, .int .i64 r.i.n, .int .i64 r.bal, .int .i64 r.st, .int .i64 r.by_, .int .i64 r.e.o.c, .int .i64 r.e.o.s, .int .i64 r.e.o.k, .string (txt r.e.o.acct), .string (txt r.e.o.peer), .int .i64 r.e.o.sum, .slice L.a L.n L.c, .int .i64 r.e.o.per, .int .i64 r.e.o.hold, .string (txt r.e.o.note), .bool r.e.none, .slice D.a D.n D.c] 37)).alloc (.cells #[.int .i64 r.bal, .int .i64 r.st, .int .i64 r.by_, .int .i64 r.e.o.c, .int .i64 r.e.o.s, .int .i64 r.e.o.k, .string (txt r.e.o.acct), .string (txt r.e.o.peer), .int .i64 r.e.o.sum, .slice L.a L.n L.c, .int .i64 r.e.o.per, .int .i64 r.e.o.hold, .string (txt r.e.o.note), .bool r.e.none, .slice D.a D.n D.c] 35)) (w.heap.size + 1) 35 #[.int .i64 r.bal, .int .i64 r.st, .int .i64 r.by_, .int .i64 r.e.o.c, .int .i64 r.e.o.s, .int .i64 r.e.o.k, .string (txt r.e.o.acct), .string (txt r.e.o.peer), .int .i64 r.e.o.sum, .slice L.a L.n L.c, .int .i64 r.e.o.per, .int .i64 r.e.o.hold, .string (txt r.e.o.note), .bool r.e.none, .slice D.a D.n D.c] := heap_alloc2_new w _ _
  have hm0 := ((Mod.refl none_ w).alloc (.cells #[.int .i64 r.i.r, .int .i64 r.i.n, .int .i64 r.bal, .int .i64 r.st, .int .i64 r.by_, .int .i64 r.e.o.c, .int .i64 r.e.o.s, .int .i64 r.e.o.k, .string (txt r.e.o.acct), .string (txt r.e.o.peer), .int .i64 r.e.o.sum, .slice L.a L.n L.c, .int .i64 r.e.o.per, .int .i64 r.e.o.hold, .string (txt r.e.o.note), .bool r.e.none, .slice D.a D.n D.c] 37)).alloc (.cells #[.int .i64 r.bal, .int .i64 r.st, .int .i64 r.by_, .int .i64 r.e.o.c, .int .i64 r.e.o.s, .int .i64 r.e.o.k, .string (txt r.e.o.acct), .string (txt r.e.o.peer), .int .i64 r.e.o.sum, .slice L.a L.n L.c, .int .i64 r.e.o.per, .int .i64 r.e.o.hold, .string (txt r.e.o.note), .bool r.e.none, .slice D.a D.n D.c] 35)
  have hrr : rightR r = (rightI r.i && (slotB r && stateB r)) := rfl
  have hsl : slotB r = decide (0 ≤ r.bal ∧ r.bal ≤ 1000000 ∧ 0 ≤ r.by_ ∧ r.by_ ≤ r.bal) := rfl
  have hst : stateB r = (if r.st = 0 then decide (r.by_ = 0) && decide (r.e = en0) else if r.st = 1 ∨ r.st = 2 ∨ r.st = 3 then decide (r.e.deps.length ≤ 100) && rightE r.i r.e else false) := rfl
  replace hE := Lib.hid hE
  replace hk := Lib.hid hk
  replace hz := Lib.hid hz
  replace hlen := Lib.hid hlen
  replace hB1 := Lib.hid hB1
  replace hB2 := Lib.hid hB2
  replace hm0 := Lib.hid hm0
  replace hrr := Lib.hid hrr
  replace hsl := Lib.hid hsl
  replace hst := Lib.hid hst
  go_enter Tryz.func23, Tryz.ntmps23
  go_wp2_with fail
  refine (k1.out _).mono ?_
  rintro e' w1 ⟨rfl, hm1⟩
  dsimp only
  have hB3 := hB1.out.mod hm1 (fun h => h)
  have hB4 := hB2.out.mod hm1 (fun h => h)
  replace hm1 := hm0.out.trans hm1
  have s0 : w1.cell? ⟨w.heap.size + 1, 0, none⟩ = some (.int .i64 r.bal) := hB4.cell_ rfl
  have s1 : w1.cell? ⟨w.heap.size + 1, 1, none⟩ = some (.int .i64 r.st) := hB4.cell_ rfl
  have s2 : w1.cell? ⟨w.heap.size + 1, 2, none⟩ = some (.int .i64 r.by_) := hB4.cell_ rfl
  have s3 : w1.cell? ⟨w.heap.size + 1, 3, none⟩ = some (.int .i64 r.e.o.c) := hB4.cell_ rfl
  have s4 : w1.cell? ⟨w.heap.size + 1, 4, none⟩ = some (.int .i64 r.e.o.s) := hB4.cell_ rfl
  have s5 : w1.cell? ⟨w.heap.size + 1, 5, none⟩ = some (.int .i64 r.e.o.k) := hB4.cell_ rfl
  have s6 : w1.cell? ⟨w.heap.size + 1, 6, none⟩ = some (.string (txt r.e.o.acct)) := hB4.cell_ rfl
  have s7 : w1.cell? ⟨w.heap.size + 1, 7, none⟩ = some (.string (txt r.e.o.peer)) := hB4.cell_ rfl
  have s8 : w1.cell? ⟨w.heap.size + 1, 8, none⟩ = some (.int .i64 r.e.o.sum) := hB4.cell_ rfl
  have s9 : w1.cell? ⟨w.heap.size + 1, 9, none⟩ = some (.slice L.a L.n L.c) := hB4.cell_ rfl
  have s10 : w1.cell? ⟨w.heap.size + 1, 10, none⟩ = some (.int .i64 r.e.o.per) := hB4.cell_ rfl
  have s11 : w1.cell? ⟨w.heap.size + 1, 11, none⟩ = some (.int .i64 r.e.o.hold) := hB4.cell_ rfl
  have s12 : w1.cell? ⟨w.heap.size + 1, 12, none⟩ = some (.string (txt r.e.o.note)) := hB4.cell_ rfl
  have s13 : w1.cell? ⟨w.heap.size + 1, 13, none⟩ = some (.bool r.e.none) := hB4.cell_ rfl
  have s14 : w1.cell? ⟨w.heap.size + 1, 14, none⟩ = some (.slice D.a D.n D.c) := hB4.cell_ rfl
  have p0 : w1.cell? ⟨w.heap.size, 0, none⟩ = some (.int .i64 r.i.r) := hB3.cell_ rfl
  have p1 : w1.cell? ⟨w.heap.size, 1, none⟩ = some (.int .i64 r.i.n) := hB3.cell_ rfl
  replace hB3 := Lib.hid hB3
  replace hB4 := Lib.hid hB4
  replace hm1 := Lib.hid hm1
  cases hri : rightI r.i with
  | false =>
    have hrr2 := Lib.hid (hrr.out.trans (by rw [hri]))
    replace hri := Lib.hid hri
    go_wp2_with fail
    go_ret
    exact ⟨by rw [hrr2.out]; rfl, hm1.out⟩
  | true =>
    have hrr1 := hrr.out.trans (by rw [hri])
    replace hri := Lib.hid hri
    by_cases hs : 0 ≤ r.bal ∧ r.bal ≤ 1000000 ∧ 0 ≤ r.by_ ∧ r.by_ ≤ r.bal
    · rw [hsl.out, decide_eq_true hs] at hrr1
      have hrr2 := Lib.hid (hrr1.trans (show (true && (true && stateB r)) = stateB r by simp))
      clear hrr1
      have d1 : ¬ r.bal < 0 := by omega
      have d2 : ¬ 1000000 < r.bal := by omega
      have d3 : ¬ r.by_ < 0 := by omega
      have d4 : ¬ r.bal < r.by_ := by omega
      replace hs := Lib.hid hs
      by_cases h0 : r.st = 0
      · have hst1 : stateB r = (decide (r.by_ = 0) && decide (r.e = en0)) := by rw [hst.out, if_pos h0]
        rw [h0] at s1
        by_cases hb : r.by_ = 0
        · rw [decide_eq_true hb] at hst1
          rw [hb] at s2
          have d5 : ¬ r.bal < 0 := d1
          rw [hb] at d3 d4
          replace h0 := Lib.hid h0
          replace hst1 := Lib.hid hst1
          replace hb := Lib.hid hb
          go_wp2_with fail
          refine (k3.out _ hm1.out).mono ?_
          rintro e' w2 ⟨rfl, hm2⟩
          dsimp only
          have hm3 := Lib.hid (hm1.out.trans hm2)
          replace hm2 := Lib.hid hm2
          go_wp2_with fail
          go_ret
          exact ⟨by rw [hrr2.out, hst1.out]; rfl, hm3.out⟩
        · rw [decide_eq_false hb] at hst1
          replace h0 := Lib.hid h0
          replace hst1 := Lib.hid hst1
          go_wp2_with fail
          go_ret
          exact ⟨by rw [hrr2.out, hst1.out]; rfl, hm1.out⟩
      by_cases hv : r.st = 1
      · have hst1 : stateB r = (decide (r.e.deps.length ≤ 100) && rightE r.i r.e) := by rw [hst.out, if_neg h0, if_pos (by omega)]
        rw [show r.st = 1 from hv] at s1
        rw [hlen.out] at hst1
        have hst1x := hst1
        clear hst1
        replace hv := Lib.hid hv
        by_cases hl : D.n ≤ 100
        · have hl2 : (D.n : Int) ≤ 100 := by omega
          rw [decide_eq_true hl] at hst1x
          go_wp2_with fail
          with_reducible refine (k2.out _ hm1.out).mono ?_
          rintro e' w2 ⟨rfl, hm2⟩
          dsimp only
          have hm3 := Lib.hid (hm1.out.trans hm2)
          replace hm2 := Lib.hid hm2
          go_wp2_with fail
          go_ret
          exact ⟨by rw [hrr2.out, hst1x]; rfl, hm3.out⟩
        · have hl2 : ¬ ((D.n : Int) ≤ 100) := by omega
          rw [decide_eq_false hl] at hst1x
          go_wp2_with fail
          go_ret
          exact ⟨by rw [hrr2.out, hst1x]; rfl, hm1.out⟩
      have hv1 := hv
      clear hv
      by_cases hv : r.st = 2
      · have hst1 : stateB r = (decide (r.e.deps.length ≤ 100) && rightE r.i r.e) := by rw [hst.out, if_neg h0, if_pos (by omega)]
        rw [show r.st = 2 from hv] at s1
        rw [hlen.out] at hst1
        have hst1x := hst1
        clear hst1
        replace hv := Lib.hid hv
        by_cases hl : D.n ≤ 100
        · have hl2 : (D.n : Int) ≤ 100 := by omega
          rw [decide_eq_true hl] at hst1x
          go_wp2_with fail
          with_reducible refine (k2.out _ hm1.out).mono ?_
          rintro e' w2 ⟨rfl, hm2⟩
          dsimp only
          have hm3 := Lib.hid (hm1.out.trans hm2)
          replace hm2 := Lib.hid hm2
          go_wp2_with fail
          go_ret
          exact ⟨by rw [hrr2.out, hst1x]; rfl, hm3.out⟩
        · have hl2 : ¬ ((D.n : Int) ≤ 100) := by omega
          rw [decide_eq_false hl] at hst1x
          go_wp2_with fail
          go_ret
          exact ⟨by rw [hrr2.out, hst1x]; rfl, hm1.out⟩
      have hv2 := hv
      clear hv
      by_cases hv : r.st = 3
      · have hst1 : stateB r = (decide (r.e.deps.length ≤ 100) && rightE r.i r.e) := by rw [hst.out, if_neg h0, if_pos (by omega)]
        rw [show r.st = 3 from hv] at s1
        rw [hlen.out] at hst1
        have hst1x := hst1
        clear hst1
        replace hv := Lib.hid hv
        by_cases hl : D.n ≤ 100
        · have hl2 : (D.n : Int) ≤ 100 := by omega
          rw [decide_eq_true hl] at hst1x
          go_wp2_with fail
          with_reducible refine (k2.out _ hm1.out).mono ?_
          rintro e' w2 ⟨rfl, hm2⟩
          dsimp only
          have hm3 := Lib.hid (hm1.out.trans hm2)
          replace hm2 := Lib.hid hm2
          go_wp2_with fail
          go_ret
          exact ⟨by rw [hrr2.out, hst1x]; rfl, hm3.out⟩
        · have hl2 : ¬ ((D.n : Int) ≤ 100) := by omega
          rw [decide_eq_false hl] at hst1x
          go_wp2_with fail
          go_ret
          exact ⟨by rw [hrr2.out, hst1x]; rfl, hm1.out⟩
      have hv3 := hv
      clear hv
      have hst1 : stateB r = false := by rw [hst.out, if_neg h0, if_neg (by omega)]
      replace hst1 := Lib.hid hst1
      go_wp2_with fail
      go_ret
      exact ⟨by rw [hrr2.out, hst1.out]; rfl, hm1.out⟩
    · rw [hsl.out, decide_eq_false hs] at hrr1
      have hrr2 := Lib.hid (hrr1.trans (show (true && (false && stateB r)) = false by simp))
      clear hrr1
      go_wp2_with fail
      all_goals
        first
          | (go_ret; exact ⟨by rw [hrr2.out]; rfl, hm1.out⟩)
          | (exfalso; omega)
end Go.Proofs.YtdnbclhidpkpgaaGreat
/-
  The plain codec: what the readers of orders, records and messages read, and what is written; there and back. No condition.
-/
namespace Go.Proofs.YtdnbclhidpkpgaaGreat
set_option linter.unusedVariables false
set_option linter.unusedSimpArgs false
abbrev RS := Nat × List UInt8
abbrev PR (α : Type) := RS → α × RS
def bd {α β : Type} (p : PR α) (f : α → PR β) : PR β := fun s => f (p s).1 (p s).2
def pu {α : Type} (x : α) : PR α := fun s => (x, s)
def qn : PR Int := fun s => rn s.2 s.1
def qg (lo hi : Int) : PR Int := fun s => rg lo hi s.2 s.1
def qt (most : Int) : PR (List UInt8) := fun s => rt most s.2 s.1
def nb (n : Int) : List UInt8 := vb (zig n)
def in64 (n : Int) : Prop := -9223372036854775808 ≤ n ∧ n ≤ 9223372036854775807
theorem tri_ {α β γ : Type} (x : α × β × γ) : ∃ p e t, x = (p, e, t) := ⟨x.1, x.2.1, x.2.2, rfl⟩
theorem duo_ {α β : Type} (x : α × β) : ∃ p e, x = (p, e) := ⟨x.1, x.2, rfl⟩
theorem nb_len (n : Int) : (nb n).length ≤ 10 := vb_len _
theorem txtB_len (s : List UInt8) : (txtB s).length ≤ s.length + 10 := by
  unfold txtB; rw [List.length_append]; have := vb_len (zig (s.length : Int)); omega
theorem bd_inv {α β : Type} {p : PR α} {f : α → PR β} {s : RS} {v : β} {e : Nat} {t : List UInt8} (h : bd p f s = (v, e, t)) : ∃ a s', p s = (a, s') ∧ f a s' = (v, e, t) := ⟨_, _, rfl, h⟩
theorem bd_of {α β : Type} {p : PR α} {f : α → PR β} {s s' : RS} {a : α} (h : p s = (a, s')) : bd p f s = f a s' := by unfold bd; rw [h]
theorem qn_exact {s : RS} {v : Int} {t : List UInt8} (h : qn s = (v, 0, t)) : s = (0, nb v ++ t) ∧ in64 v := by
  obtain ⟨e, l⟩ := s
  unfold qn at h
  dsimp only at h
  have he : e = 0 := by
    rcases Nat.eq_zero_or_pos e with h1 | h1
    · exact h1
    · unfold rn at h
      rw [if_pos (by omega)] at h
      simp only [Prod.mk.injEq] at h
      omega
  subst he
  obtain ⟨k, _, h2, rfl, h4, h5, h6, _⟩ := rn_yes h
  refine ⟨?_, h5, h6⟩
  unfold nb
  rw [← h4, List.take_append_drop]
theorem qn_reads {v : Int} (t : List UInt8) (h : in64 v) : qn (0, nb v ++ t) = (v, 0, t) := rn_of h.1 h.2 rfl
theorem qg_exact {lo hi : Int} {s : RS} {v : Int} {t : List UInt8} (h : qg lo hi s = (v, 0, t)) : s = (0, nb v ++ t) ∧ lo ≤ v ∧ v ≤ hi := by
  have hb := rg_bound h
  refine ⟨?_, hb⟩
  have : qn s = (v, 0, t) := by
    unfold qg rg at h
    unfold qn
    by_cases h1 : (rn s.2 s.1).2.1 ≠ 0
    · rw [if_pos h1] at h
      exact absurd (congrArg (·.2.1) h) h1
    · rw [if_neg h1] at h
      by_cases h2 : (rn s.2 s.1).1 < lo ∨ hi < (rn s.2 s.1).1
      · rw [if_pos h2] at h; simp at h
      · rw [if_neg h2] at h; exact h
  exact (qn_exact this).1
theorem qg_reads {lo hi v : Int} (t : List UInt8) (h1 : lo ≤ v) (h2 : v ≤ hi) (h3 : in64 v) : qg lo hi (0, nb v ++ t) = (v, 0, t) := by
  have := qn_reads t h3
  unfold qn at this
  unfold qg rg
  dsimp only at this ⊢
  rw [this]
  dsimp only
  rw [if_neg (by omega), if_neg (by omega)]
theorem qt_exact {most : Int} {s : RS} {v t : List UInt8} (h : qt most s = (v, 0, t)) : s = (0, txtB v ++ t) ∧ (v.length : Int) ≤ most := by
  unfold qt rt at h
  obtain ⟨k, e, r, hr⟩ : ∃ k e r, rg 0 most s.2 s.1 = (k, e, r) := ⟨_, _, _, rfl⟩
  rw [hr] at h
  dsimp only at h
  by_cases h1 : e ≠ 0
  · rw [if_pos h1] at h; simp only [Prod.mk.injEq] at h; omega
  · rw [if_neg h1] at h
    obtain rfl : e = 0 := by omega
    by_cases h2 : (r.length : Int) < k
    · rw [if_pos h2] at h; simp at h
    · rw [if_neg h2] at h
      obtain ⟨h3, h4, h5⟩ := qg_exact (s := s) hr
      simp only [Prod.mk.injEq, true_and] at h
      obtain ⟨rfl, rfl⟩ := h
      have hl : (r.take k.toNat).length = k.toNat := by rw [List.length_take]; omega
      refine ⟨?_, by omega⟩
      rw [h3]
      unfold txtB
      rw [hl, show ((k.toNat : Nat) : Int) = k by omega, List.append_assoc, List.take_append_drop]
      rfl
theorem qt_reads {most : Int} {v : List UInt8} (t : List UInt8) (h : (v.length : Int) ≤ most) (hm : most ≤ 1000000) : qt most (0, txtB v ++ t) = (v, 0, t) := by
  have := qg_reads (lo := 0) (hi := most) (v := (v.length : Int)) (v ++ t) (by omega) h ⟨by omega, by omega⟩
  unfold qg at this
  unfold qt rt txtB
  dsimp only at this ⊢
  rw [List.append_assoc]
  unfold nb at this
  rw [this]
  dsimp only
  rw [if_neg (by omega), if_neg (by rw [List.length_append]; omega)]
  simp
/-- so many, one behind the other -/
def rdList {α : Type} (p : PR α) : Nat → PR (List α)
  | 0 => pu []
  | n + 1 => bd p fun x => bd (rdList p n) fun xs => pu (x :: xs)
theorem rdList_exact {α : Type} {p : PR α} {enc : α → List UInt8} {ok : α → Prop} (hp : ∀ s v t, p s = (v, 0, t) → s = (0, enc v ++ t) ∧ ok v) :
    ∀ (n : Nat) (s : RS) (vs : List α) (t : List UInt8), rdList p n s = (vs, 0, t) → s = (0, vs.flatMap enc ++ t) ∧ vs.length = n ∧ ∀ v ∈ vs, ok v := by
  intro n
  induction n with
  | zero =>
    intro s vs t h
    simp only [rdList, pu, Prod.mk.injEq] at h
    obtain ⟨rfl, h⟩ := h
    exact ⟨by rw [h]; simp, rfl, fun v hv => by cases hv⟩
  | succ n ih =>
    intro s vs t h
    obtain ⟨x, s1, h1, h⟩ := bd_inv h
    obtain ⟨xs, s2, h2, h⟩ := bd_inv h
    simp only [pu, Prod.mk.injEq] at h
    obtain ⟨rfl, rfl⟩ := h
    obtain ⟨rfl, h3, h4⟩ := ih _ _ _ h2
    obtain ⟨rfl, h5⟩ := hp _ _ _ h1
    refine ⟨by simp, by simp [h3], fun v hv => ?_⟩
    rcases List.mem_cons.1 hv with rfl | hv
    · exact h5
    · exact h4 v hv
theorem rdList_reads {α : Type} {p : PR α} {enc : α → List UInt8} {ok : α → Prop} (hp : ∀ v t, ok v → p (0, enc v ++ t) = (v, 0, t)) :
    ∀ (vs : List α) (t : List UInt8), (∀ v ∈ vs, ok v) → rdList p vs.length (0, vs.flatMap enc ++ t) = (vs, 0, t) := by
  intro vs
  induction vs with
  | nil => intro t _; rfl
  | cons x xs ih =>
    intro t h
    simp only [List.length_cons, rdList, List.flatMap_cons, List.append_assoc]
    rw [bd_of (hp x _ (h x (by simp))), bd_of (ih t fun v hv => h v (by simp [hv]))]
    rfl
/-- one step of a loop that reads a list -/
theorem rdList_step {α : Type} {p : PR α} {n : Nat} {s s1 r2 : RS} {x : α} {pre all : List α} {rest : List α} (h1 : p s = (x, s1)) (h2 : rdList p (n + 1) s = (rest, r2)) (h3 : pre ++ rest = all) :
    ∃ rest', rdList p n s1 = (rest', r2) ∧ (pre ++ [x]) ++ rest' = all := by
  unfold rdList at h2
  rw [bd_of h1] at h2
  obtain ⟨xs, s2, h4⟩ : ∃ xs s2, rdList p n s1 = (xs, s2) := ⟨_, _, rfl⟩
  rw [bd_of h4] at h2
  simp only [pu, Prod.mk.injEq] at h2
  obtain ⟨rfl, rfl⟩ := h2
  exact ⟨xs, h4, by rw [← h3]; simp⟩

/- ORDERS -/
def legB (l : Lg) : List UInt8 := txtB l.n ++ nb l.x
def orderB (o : Od) : List UInt8 :=
  nb o.c ++ (nb o.s ++ (nb o.k ++ (txtB o.acct ++ (txtB o.peer ++ (nb o.sum ++ (nb (o.legs.length : Int) ++ (o.legs.flatMap legB ++ (nb o.per ++ (nb o.hold ++ txtB o.note)))))))))
def rdLeg : PR Lg := bd (qt 8) fun n => bd qn fun x => pu ⟨n, x⟩
def okLg (l : Lg) : Prop := l.n.length ≤ 8 ∧ in64 l.x
theorem rdLeg_exact (s : RS) (v : Lg) (t : List UInt8) (h : rdLeg s = (v, 0, t)) : s = (0, legB v ++ t) ∧ okLg v := by
  unfold rdLeg at h
  obtain ⟨n, s1, h1, h⟩ := bd_inv h
  obtain ⟨x, s2, h2, h⟩ := bd_inv h
  simp only [pu, Prod.mk.injEq] at h
  obtain ⟨rfl, rfl⟩ := h
  obtain ⟨rfl, h3⟩ := qn_exact h2
  obtain ⟨rfl, h4⟩ := qt_exact h1
  exact ⟨by unfold legB; simp, by dsimp only; omega, h3⟩
theorem rdLeg_reads (v : Lg) (t : List UInt8) (h : okLg v) : rdLeg (0, legB v ++ t) = (v, 0, t) := by
  unfold rdLeg legB
  rw [List.append_assoc, bd_of (qt_reads _ (by have := h.1; omega) (by omega)), bd_of (qn_reads _ h.2)]
  rfl
def rdO : PR Od := bd (qg 0 9) fun c => bd (qg 0 999) fun s => bd (qg 0 7) fun k => bd (qt 8) fun a => bd (qt 8) fun p => bd qn fun x => bd (qg 0 6) fun n =>
  bd (rdList rdLeg n.toNat) fun ls => bd (qg 0 1000) fun per => bd (qg 0 9999) fun hold => bd (qt 20) fun note => pu ⟨c, s, k, a, p, x, ls, per, hold, note⟩
def okOd (o : Od) : Prop := (0 ≤ o.c ∧ o.c ≤ 9) ∧ (0 ≤ o.s ∧ o.s ≤ 999) ∧ (0 ≤ o.k ∧ o.k ≤ 7) ∧ o.acct.length ≤ 8 ∧ o.peer.length ≤ 8 ∧ in64 o.sum ∧ o.legs.length ≤ 6 ∧ (∀ l ∈ o.legs, okLg l) ∧ (0 ≤ o.per ∧ o.per ≤ 1000) ∧ (0 ≤ o.hold ∧ o.hold ≤ 9999) ∧ o.note.length ≤ 20
theorem in64_of {lo hi v : Int} (h1 : lo ≤ v) (h2 : v ≤ hi) (h3 : -9223372036854775808 ≤ lo) (h4 : hi ≤ 9223372036854775807) : in64 v := ⟨by omega, by omega⟩
theorem rdO_exact (s : RS) (o : Od) (t : List UInt8) (h : rdO s = (o, 0, t)) : s = (0, orderB o ++ t) ∧ okOd o := by
  unfold rdO at h
  obtain ⟨c, s1, h1, h⟩ := bd_inv h
  obtain ⟨q, s2, h2, h⟩ := bd_inv h
  obtain ⟨k, s3, h3, h⟩ := bd_inv h
  obtain ⟨a, s4, h4, h⟩ := bd_inv h
  obtain ⟨p, s5, h5, h⟩ := bd_inv h
  obtain ⟨x, s6, h6, h⟩ := bd_inv h
  obtain ⟨n, s7, h7, h⟩ := bd_inv h
  obtain ⟨ls, s8, h8, h⟩ := bd_inv h
  obtain ⟨per, s9, h9, h⟩ := bd_inv h
  obtain ⟨hold, s10, h10, h⟩ := bd_inv h
  obtain ⟨note, s11, h11, h⟩ := bd_inv h
  simp only [pu, Prod.mk.injEq] at h
  obtain ⟨rfl, rfl⟩ := h
  obtain ⟨rfl, k11⟩ := qt_exact h11
  obtain ⟨rfl, k10⟩ := qg_exact h10
  obtain ⟨rfl, k9⟩ := qg_exact h9
  obtain ⟨rfl, k8, k8'⟩ := rdList_exact rdLeg_exact _ _ _ _ h8
  obtain ⟨rfl, k7⟩ := qg_exact h7
  obtain ⟨rfl, k6⟩ := qn_exact h6
  obtain ⟨rfl, k5⟩ := qt_exact h5
  obtain ⟨rfl, k4⟩ := qt_exact h4
  obtain ⟨rfl, k3⟩ := qg_exact h3
  obtain ⟨rfl, k2⟩ := qg_exact h2
  obtain ⟨rfl, k1⟩ := qg_exact h1
  refine ⟨?_, k1, k2, k3, by dsimp only; omega, by dsimp only; omega, k6, by dsimp only; omega, k8', k9, k10, by dsimp only; omega⟩
  have e : ((ls.length : Nat) : Int) = n := by rw [k8]; omega
  unfold orderB
  dsimp only
  rw [e]
  simp only [List.append_assoc]
theorem rdO_reads (o : Od) (t : List UInt8) (h : okOd o) : rdO (0, orderB o ++ t) = (o, 0, t) := by
  obtain ⟨h1, h2, h3, h4, h5, h6, h7, h8, h9, h10, h11⟩ := h
  unfold rdO orderB
  simp only [List.append_assoc]
  rw [bd_of (qg_reads _ h1.1 h1.2 (in64_of h1.1 h1.2 (by decide) (by decide))), bd_of (qg_reads _ h2.1 h2.2 (in64_of h2.1 h2.2 (by decide) (by decide))), bd_of (qg_reads _ h3.1 h3.2 (in64_of h3.1 h3.2 (by decide) (by decide))),
    bd_of (qt_reads _ (by omega) (by omega)), bd_of (qt_reads _ (by omega) (by omega)), bd_of (qn_reads _ h6), bd_of (qg_reads _ (by omega) (by omega) ⟨by omega, by omega⟩)]
  rw [show ((o.legs.length : Int)).toNat = o.legs.length by omega, bd_of (rdList_reads rdLeg_reads _ _ h8),
    bd_of (qg_reads _ h9.1 h9.2 (in64_of h9.1 h9.2 (by decide) (by decide))), bd_of (qg_reads _ h10.1 h10.2 (in64_of h10.1 h10.2 (by decide) (by decide))), bd_of (qt_reads _ (by omega) (by omega))]
  rfl
/-- order.Read -/
def rdOrd (b : List UInt8) : Od × Nat :=
  if dn (rdO (0, b)).2.2 (rdO (0, b)).2.1 ≠ 0 ∨ rightO (rdO (0, b)).1 = false then (od0, 3) else ((rdO (0, b)).1, 0)
theorem dn_zero {l : List UInt8} {e : Nat} : dn l e = 0 ↔ e = 0 ∧ l = [] := by
  unfold dn
  by_cases h : e = 0
  · rw [if_neg (by omega)]
    by_cases h2 : 0 < l.length
    · rw [if_pos h2]
      constructor
      · intro h; omega
      · rintro ⟨_, rfl⟩; simp at h2
    · rw [if_neg h2]
      exact ⟨fun _ => ⟨h, List.eq_nil_of_length_eq_zero (by omega)⟩, fun _ => rfl⟩
  · rw [if_pos h]
    exact ⟨fun h1 => absurd h1 h, fun h1 => absurd h1.1 h⟩
theorem nameB_len {l : List UInt8} (h : nameB l = true) : l.length ≤ 8 := by
  unfold nameB at h
  simp only [Bool.and_eq_true, decide_eq_true_eq] at h
  exact h.2
/-- what is in the machine's numbers -/
def numsO (o : Od) : Prop := in64 o.c ∧ in64 o.s ∧ in64 o.k ∧ in64 o.sum ∧ (∀ l ∈ o.legs, in64 l.x) ∧ in64 o.per ∧ in64 o.hold
theorem legsB_ok {ls : List Lg} (h : legsB ls = true) (hn : ∀ l ∈ ls, in64 l.x) : ls.length ≤ 6 ∧ ∀ l ∈ ls, okLg l := by
  unfold legsB at h
  simp only [Bool.and_eq_true, decide_eq_true_eq, List.all_eq_true] at h
  refine ⟨h.2, fun l hl => ⟨?_, hn l hl⟩⟩
  have := h.1.1.1 l hl
  unfold okLeg at this
  rw [Bool.and_eq_true] at this
  exact nameB_len this.1
theorem rightO_okOd {o : Od} (h : rightO o = true) (hn : in64 o.sum ∧ ∀ l ∈ o.legs, in64 l.x) : okOd o := by
  unfold rightO at h
  rw [Bool.and_eq_true] at h
  obtain ⟨h1, h2⟩ := h
  unfold idB at h1
  rw [decide_eq_true_eq] at h1
  unfold kindB at h2
  have z64 : in64 0 := ⟨by omega, by omega⟩
  split at h2
  · rename_i hk
    rw [Bool.and_eq_true, decide_eq_true_eq] at h2
    obtain ⟨he, hf⟩ := h2
    unfold fits1 at hf
    simp only [Bool.and_eq_true, decide_eq_true_eq] at hf
    have hnm := nameB_len hf.1
    rw [he] at hn ⊢
    exact ⟨⟨h1.1, h1.2.1⟩, ⟨by dsimp only [bare1]; omega, h1.2.2.2⟩, ⟨by dsimp only [bare1]; omega, by dsimp only [bare1]; omega⟩, hnm, by simp [bare1], hn.1, by simp [bare1], by simp [bare1], by simp [bare1], by simp [bare1], by simp [bare1]⟩
  · split at h2
    · rename_i hk
      rw [Bool.and_eq_true, decide_eq_true_eq] at h2
      obtain ⟨he, hf⟩ := h2
      unfold fits2 periodB at hf
      simp only [Bool.and_eq_true, decide_eq_true_eq] at hf
      obtain ⟨hl1, hl2⟩ := legsB_ok hf.1 hn.2
      obtain ⟨hp, hno⟩ := hf.2
      rw [he]
      exact ⟨⟨h1.1, h1.2.1⟩, ⟨by dsimp only [bare2]; omega, h1.2.2.2⟩, ⟨by dsimp only [bare2]; omega, by dsimp only [bare2]; omega⟩, by simp [bare2], by simp [bare2], z64, hl1, hl2, by dsimp only [bare2]; omega, by simp [bare2], hno⟩
    · split at h2
      · rename_i hk
        rw [Bool.and_eq_true, decide_eq_true_eq] at h2
        obtain ⟨he, hf⟩ := h2
        unfold fits3 at hf
        simp only [Bool.and_eq_true, decide_eq_true_eq] at hf
        have hnm := nameB_len hf.1
        rw [he] at hn ⊢
        exact ⟨⟨h1.1, h1.2.1⟩, ⟨by dsimp only [bare3]; omega, h1.2.2.2⟩, ⟨by dsimp only [bare3]; omega, by dsimp only [bare3]; omega⟩, hnm, by simp [bare3], hn.1, by simp [bare3], by simp [bare3], by simp [bare3], by simp [bare3], by simp [bare3]⟩
      · split at h2
        · rename_i hk
          rw [Bool.and_eq_true, decide_eq_true_eq] at h2
          obtain ⟨he, hf⟩ := h2
          unfold fits4 heldB periodB at hf
          simp only [Bool.and_eq_true, decide_eq_true_eq] at hf
          have hnm := nameB_len hf.1
          have hpm := nameB_len hf.2.1
          obtain ⟨_, _, hh, hp⟩ := hf.2.2
          rw [he] at hn ⊢
          exact ⟨⟨h1.1, h1.2.1⟩, ⟨by dsimp only [bare4]; omega, h1.2.2.2⟩, ⟨by dsimp only [bare4]; omega, by dsimp only [bare4]; omega⟩, hnm, hpm, hn.1, by simp [bare4], by simp [bare4], by dsimp only [bare4]; omega, by dsimp only [bare4]; omega, by simp [bare4]⟩
        · split at h2
          · rename_i hk
            rw [Bool.and_eq_true, decide_eq_true_eq] at h2
            obtain ⟨he, hf⟩ := h2
            unfold fits5 heldB at hf
            simp only [Bool.and_eq_true, decide_eq_true_eq] at hf
            have hnm := nameB_len hf.1
            have hh := hf.2
            rw [he]
            exact ⟨⟨h1.1, h1.2.1⟩, ⟨by dsimp only [bare5]; omega, h1.2.2.2⟩, ⟨by dsimp only [bare5]; omega, by dsimp only [bare5]; omega⟩, hnm, by simp [bare5], z64, by simp [bare5], by simp [bare5], by simp [bare5], by dsimp only [bare5]; omega, by simp [bare5]⟩
          · split at h2
            · rename_i hk
              rw [Bool.and_eq_true, decide_eq_true_eq] at h2
              obtain ⟨he, hf⟩ := h2
              unfold fits6 periodB at hf
              simp only [decide_eq_true_eq] at hf
              rw [he]
              exact ⟨⟨h1.1, h1.2.1⟩, ⟨by dsimp only [bare6]; omega, h1.2.2.2⟩, ⟨by dsimp only [bare6]; omega, by dsimp only [bare6]; omega⟩, by simp [bare6], by simp [bare6], z64, by simp [bare6], by simp [bare6], by dsimp only [bare6]; omega, by simp [bare6], by simp [bare6]⟩
            · split at h2
              · rename_i hk
                rw [Bool.and_eq_true, decide_eq_true_eq] at h2
                obtain ⟨he, hf⟩ := h2
                have hnm := nameB_len hf
                rw [he]
                exact ⟨⟨h1.1, h1.2.1⟩, ⟨by dsimp only [bare7]; omega, h1.2.2.2⟩, ⟨by dsimp only [bare7]; omega, by dsimp only [bare7]; omega⟩, hnm, by simp [bare7], z64, by simp [bare7], by simp [bare7], by simp [bare7], by simp [bare7], by simp [bare7]⟩
              · cases h2
theorem flat_le {α : Type} (f : α → List UInt8) (k : Nat) : ∀ (xs : List α), (∀ x ∈ xs, (f x).length ≤ k) → (xs.flatMap f).length ≤ xs.length * k := by
  intro xs
  induction xs with
  | nil => intro _; simp
  | cons x xs ih =>
    intro h
    rw [List.flatMap_cons, List.length_append, List.length_cons, Nat.succ_mul]
    have := ih fun y hy => h y (by simp [hy])
    have := h x (by simp)
    omega
theorem orderB_len {o : Od} (h : okOd o) : (orderB o).length ≤ 400 := by
  obtain ⟨_, _, _, h4, h5, _, h7, h8, _, _, h11⟩ := h
  have hl := flat_le legB 28 o.legs fun l hl => by
    have := (h8 l hl).1
    have := txtB_len l.n
    have := nb_len l.x
    unfold legB
    rw [List.length_append]; omega
  have := nb_len o.c
  have := nb_len o.s
  have := nb_len o.k
  have := nb_len o.sum
  have := nb_len (o.legs.length : Int)
  have := nb_len o.per
  have := nb_len o.hold
  have := txtB_len o.acct
  have := txtB_len o.peer
  have := txtB_len o.note
  unfold orderB
  simp only [List.length_append]
  omega
/-- There and back. -/
theorem rdOrd_of {o : Od} (h : rightO o = true) (hn : in64 o.sum ∧ ∀ l ∈ o.legs, in64 l.x) : rdOrd (orderB o) = (o, 0) := by
  have := rdO_reads o [] (rightO_okOd h hn)
  rw [List.append_nil] at this
  unfold rdOrd
  rw [this]
  dsimp only
  rw [if_neg]
  rw [h, show dn [] 0 = 0 from rfl]
  simp
/-- Just these bytes. -/
theorem rdOrd_yes {b : List UInt8} {o : Od} (h : rdOrd b = (o, 0)) : rightO o = true ∧ b = orderB o ∧ okOd o := by
  unfold rdOrd at h
  obtain ⟨p, e, t, hr⟩ : ∃ p e t, rdO (0, b) = (p, e, t) := tri_ _
  rw [hr] at h
  dsimp only at h
  by_cases h1 : dn t e ≠ 0 ∨ rightO p = false
  · rw [if_pos h1] at h; simp at h
  · rw [if_neg h1] at h
    simp only [Prod.mk.injEq, and_true] at h
    subst h
    have h2 : dn t e = 0 := Classical.byContradiction fun hh => h1 (.inl hh)
    obtain ⟨rfl, rfl⟩ := dn_zero.1 h2
    obtain ⟨h3, h4⟩ := rdO_exact _ _ _ hr
    simp only [Prod.mk.injEq, List.append_nil, true_and] at h3
    refine ⟨?_, h3, h4⟩
    cases hq : rightO p with
    | true => rfl
    | false => exact absurd (.inr hq) h1
theorem rdOrd_two (b : List UInt8) : (rdOrd b).2 = 0 ∨ rdOrd b = (od0, 3) := by
  unfold rdOrd
  split
  · exact .inr rfl
  · exact .inl rfl
end Go.Proofs.YtdnbclhidpkpgaaGreat
/-
  post.Right.
-/
namespace Go.Proofs.YtdnbclhidpkpgaaGreat
set_option linter.unusedVariables false
set_option linter.unusedSimpArgs false
open Go.RowKit
theorem record_size : (Tryz.prog.info? 37).map (·.size) = some 17 := by kernel_rfl
theorem ret_record {fn : Func} {p : Tmp} (h : fn.results = #[.cell p 37]) {a : Act} {w : World} {R : Ending → World → Prop} (g : Nat) (cs : Array Value) (hp : a.tmps.getD p undef = .pointer (some ⟨g, 0, none⟩))
    (hg : Blk w g 37 cs) (hs : cs.size = 17) (hd : a.defers = []) (hR : R (.returned (.agg cs)) w) : bodyPost Tryz.prog fn R .ret a w :=
  bodyPost_ret (results_cell_row h a.tmps w g _ cs _ _ hp hg Tryz.underlying37 rfl (by rw [hs]; exact record_size)) hd hR
def bareR (r : Rc) : Rc := ⟨r.i, 0, 3, 0, r.e⟩
def endsB (m : Mg) : Bool := decide (0 ≤ m.frm ∧ m.frm ≤ 6 ∧ 0 ≤ m.to ∧ m.to ≤ 6 ∧ ¬ m.frm = m.to)
def kindMB (m : Mg) : Bool := decide (1 ≤ m.kind ∧ m.kind ≤ 9)
def plainB (m : Mg) : Bool := decide (m.r.st = 0 ∧ m.r.by_ = 0 ∧ 0 ≤ m.r.bal ∧ m.r.bal ≤ 1000000)
def rightM (m : Mg) : Bool := endsB m && (kindMB m && (rightR m.r || (plainB m && rightR (bareR m.r))))
end Go.Proofs.YtdnbclhidpkpgaaGreat
