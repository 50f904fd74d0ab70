/-
  Knots: small functions of the statements.
-/
import Derived.Test.YtenlpklgpcnfiaaKnRe
import Derived.Deep.QuietTactic
import Derived.BigQuiet
import Derived.Deep.RegionLaw
import Derived.Lib.MinMax
namespace Go.Proofs.Ytenlpklgpcnfiaa
set_option linter.unusedVariables false
open Go.RowKit
set_option maxRecDepth 100000 in
theorem sameZ_ok (w : World) (A B : Option Addr) (n m d1 d2 : Nat) (la lb : List Int) (ha : RdI w A n la) (hb : RdI w B m lb) (hn : n ≤ 1000000000000000) (hm : m ≤ 1000000000000000) :
    Calls Try.prog 12 #[.slice A n d1, .slice B m d2] w fun e w' => e = .returned (.bool (decide (la = lb))) ∧ ∃ k, w' = w.drewN k := by
  have l1 := ha.len
  have l2 := hb.len
  replace ha := Lib.hid ha
  replace hb := Lib.hid hb
  replace l1 := Lib.hid l1
  replace l2 := Lib.hid l2
  by_cases hnm : n = m
  · subst hnm
    go_enter Try.func12, Try.ntmps12
    go_wp2_with fail
    go_loopg [5] n (fun k x wr => ∃ j : Nat, x = .int .i64 j ∧ j + k = n ∧ la.take j = lb.take j ∧ ∃ q, wr = w.drewN q)
    case atStart => exact ⟨0, rfl, by omega, by simp, 0, rfl⟩
    case round =>
      obtain ⟨j, rfl, hj, he, q, rfl⟩ := hrel
      replace he := Lib.hid he
      by_cases hlt : j < n
      · obtain ⟨b, o, rfl, hla, hc1⟩ := rdi_get ha.out hlt
        obtain ⟨b2, o2, rfl, hlb, hc2⟩ := rdi_get hb.out hlt
        obtain ⟨x, hx⟩ : ∃ x, x = la[j] := ⟨_, rfl⟩
        obtain ⟨y, hy⟩ : ∃ y, y = lb[j] := ⟨_, rfl⟩
        rw [← hx] at hc1
        rw [← hy] at hc2
        by_cases hxy : x = y
        · have hnx : la.take (j + 1) = lb.take (j + 1) := by
            rw [List.take_succ_eq_append_getElem hla, List.take_succ_eq_append_getElem hlb, he.out, ← hx, ← hy, hxy]
          have hd : (x != y) = false := by simp [hxy]
          replace hx := Lib.hid hx
          replace hy := Lib.hid hy
          replace hxy := Lib.hid hxy
          replace hnx := Lib.hid hnx
          go_wp2_with (go_quiet (fail))
          go_roundg (gk - 1)
          case measure => omega
          case rel => exact ⟨j + 1, by go_num, by omega, hnx.out, _, rfl⟩
        · have hne : Hid (decide (la = lb) = false) := by
            refine Lib.hid (decide_eq_false ?_)
            rintro rfl
            exact hxy (hx.trans hy.symm)
          have hd : (x != y) = true := by simp [hxy]
          replace hx := Lib.hid hx
          replace hy := Lib.hid hy
          replace hxy := Lib.hid hxy
          go_wp2_with (go_quiet (fail))
          go_ret
          exact ⟨by rw [hne.out]; rfl, _, by rw [World.drewN_drewN]⟩
      · have hne : Hid (decide (la = lb) = true) := by
          refine Lib.hid (decide_eq_true ?_)
          have := he.out
          rwa [List.take_of_length_le (by have := l1.out; omega), List.take_of_length_le (by have := l2.out; omega)] at this
        go_wp2_with fail
        go_ret
        exact ⟨by rw [hne.out]; rfl, _, rfl⟩
  · have hne : Hid (decide (la = lb) = false) := by
      refine Lib.hid (decide_eq_false ?_)
      rintro rfl
      exact hnm (l1.out.symm.trans l2.out)
    have hd : ((n : Int) != (m : Int)) = true := by simp; omega
    go_enter Try.func12, Try.ntmps12
    go_wp2_with fail
    go_ret
    exact ⟨by rw [hne.out]; rfl, 0, rfl⟩
set_option maxRecDepth 100000 in
theorem has_ok (w : World) (A : Option Addr) (n c : Nat) (l : List Int) (h : RdI w A n l) (hn : n ≤ 1000000000000000) (x : Int) :
    Calls Try.prog 17 #[.slice A n c, .int .i64 x] w fun e w' => e = .returned (.bool (decide (x ∈ l))) ∧ w = w' := by
  have hl := h.len
  replace h := Lib.hid h
  replace hl := Lib.hid hl
  go_enter Try.func17, Try.ntmps17
  go_wp2_with fail
  go_loopg [5] n (fun k v wr => ∃ i : Nat, v = .int .i64 i ∧ i + k = n ∧ x ∉ l.take i ∧ w = wr)
  case atStart => exact ⟨0, rfl, by omega, by simp, rfl⟩
  case round =>
    obtain ⟨i, rfl, hik, hno, rfl⟩ := hrel
    by_cases hlt : i < n
    · obtain ⟨b, o, hB, hxl, hx⟩ := rdi_get h.out hlt
      subst hB
      have htk : l.take (i + 1) = l.take i ++ [l[i]] := by rw [List.take_succ_eq_append_getElem hxl]
      have hmem : l[i] ∈ l := List.getElem_mem hxl
      generalize l[i] = y at *
      by_cases hyx : y = x
      · subst hyx
        have hd : (y == y) = true := by simp
        have hin : Hid (decide (y ∈ l) = true) := Lib.hid (decide_eq_true hmem)
        replace hno := Lib.hid hno
        replace htk := Lib.hid htk
        replace hmem := Lib.hid hmem
        go_wp2_with fail
        go_ret
        exact ⟨by rw [hin.out]; rfl, rfl⟩
      · have hd : (y == x) = false := by simpa using hyx
        have hnx : Hid (x ∉ l.take (i + 1)) := Lib.hid (by rw [htk, List.mem_append]; rintro (h1 | h1); exact hno h1; simp at h1; exact hyx h1.symm)
        replace hno := Lib.hid hno
        replace htk := Lib.hid htk
        replace hmem := Lib.hid hmem
        replace hyx := Lib.hid hyx
        go_wp2_with fail
        go_roundg (gk - 1)
        case measure => omega
        case rel => exact ⟨i + 1, by go_num, by omega, hnx.out, rfl⟩
    · rw [List.take_of_length_le (by rw [hl.out]; omega)] at hno
      have hout : Hid (decide (x ∈ l) = false) := Lib.hid (decide_eq_false hno)
      replace hno := Lib.hid hno
      go_wp2_with fail
      go_ret
      exact ⟨by rw [hout.out]; rfl, rfl⟩
theorem step_appG {w : World} {ops : Array Oper} {o : Oper} {a : Act} {K : Act → World → Prop} {Q : Exit → Act → World → Prop} {X : Prop} (hgd : o.guard = none) (s x : Operand)
    (ho : o.op = .call { callee := .builtin .append, args := #[s, x], argTypes := #[22, 22] })
    {A : Option Addr} {n c : Nat} {xs : List SV} (hs : a.eval s = .slice A n c) (hown : Ow w 28 1 A n c (xs.map SV.v))
    {S : Option Addr} {m d : Nat} {news : List SV} (hx : a.eval x = .slice S m d) (hr : Rd w 1 S m (news.map SV.v)) (hb : (n + m) * 24 ≤ 140737488355328)
    (h : ∀ A' c' w', Ow w' 28 1 A' (n + m) c' ((xs ++ news).map SV.v) → Mod (fp A) w w' → (A' = A ∨ A' = some ⟨w.heap.size, 0, none⟩) → K (a.put o.dst (.slice A' (n + m) c')) w') :
    if Region.wanted o (yielded ops a.tmps) = true then Oper.wp Try.prog o a w K Q else X := by
  obtain ⟨i0, hi, hz0, hz1, hz2⟩ := info_parts slginfo
  refine step_append_ow hgd s x 22 ho 28 i0 _ 1 24 Try.underlying22 hi hz0 hz1 hz2 rfl (by omega) A n c (xs.map SV.v) hs hown S m d (news.map SV.v) hx hr (svs_one _) (by omega) (by omega) ?_
  intro A' c' w' h1
  rw [← List.map_append] at h1
  exact h A' c' w' h1
def fewG (N : Nat) (g : List (List Int)) : List (List Int) := (g.take N).map fun l => l.take 20
theorem fewG_len (N : Nat) (g : List (List Int)) : (fewG N g).length = min N g.length := by unfold fewG; rw [List.length_map, List.length_take]
theorem fewG_get {N : Nat} {g : List (List Int)} {i : Nat} {l : List Int} (h : g[i]? = some l) (hi : i < N) : (fewG N g).take (i + 1) = (fewG N g).take i ++ [l.take 20] := by
  have hil : i < g.length := by
    rcases Nat.lt_or_ge i g.length with h1 | h1
    · exact h1
    · rw [List.getElem?_eq_none h1] at h; cases h
  have hi2 : i < (fewG N g).length := by rw [fewG_len]; omega
  rw [List.take_succ_eq_append_getElem hi2]
  congr 1
  unfold fewG
  rw [List.getElem?_eq_getElem hil] at h
  injection h with h
  simp [h]
theorem rdi_take {w : World} {A : Option Addr} {n : Nat} {l : List Int} (h : RdI w A n l) {k : Nat} (hk : k ≤ n) : RdI w A k (l.take k) := by
  have := Rd.take_ h hk
  have e : (ivs l).take (k * 1) = ivs (l.take k) := by simp [ivs, List.map_take]
  rw [e] at this
  exact this
set_option maxRecDepth 100000 in
set_option maxHeartbeats 4000000 in
theorem few_ok (w : World) (A : Option Addr) (n c : Nat) (ss : List SV) (g : List (List Int)) (hg : RdG w A n ss g) (N : Nat) (hN : N ≤ 1000) :
    Calls Try.prog 10 #[.slice A n c, .int .i64 (N : Int)] w fun e w' => ∃ G d ts, e = .returned (.slice G (fewG N g).length d) ∧ OwG w' G (fewG N g).length d ts (fewG N g) ∧ Fresh w G ∧ Mod none_ w w' := by
  have hgl := hg.len
  have hfl := fewG_len N g
  rw [hgl] at hfl
  obtain ⟨m, hm⟩ : ∃ m, (fewG N g).length = m := ⟨_, rfl⟩
  rw [hm] at hfl ⊢
  have hmN : m ≤ N := by omega
  have hmn : m ≤ n := by omega
  have hmx : ¬ (m < n) ∨ ¬ (m < N) := by omega
  clear hfl
  have hfull : (fewG N g).take m = fewG N g := List.take_of_length_le (by omega)
  replace hg := Lib.hid hg
  replace hgl := Lib.hid hgl
  replace hm := Lib.hid hm
  replace hfull := Lib.hid hfull
  go_enter Try.func10, Try.ntmps10
  go_wp2_with fail
  go_loopg [5, 6] m (fun k v5 v wr => ∃ i G d ts, v = .int .i64 (i : Nat) ∧ i + k = m ∧ v5 = .slice G i d ∧ OwG wr G i d ts ((fewG N g).take i) ∧ Fresh w G ∧ Mod none_ w wr)
  case atStart => exact ⟨0, none, 0, [], rfl, by omega, rfl, OwG.nil _, fun a ha => (by cases ha), Mod.refl _ _⟩
  case round =>
    obtain ⟨i, G, d, ts, rfl, hik, rfl, ho, hf, hm0⟩ := hrel
    by_cases hil : i < m
    · obtain ⟨b, o, B, kk, cc, l, hA, hc1, hgi, hrd, hkc, hkb⟩ := RdG.get hg.out (show i < n by omega)
      subst hA
      have hc2 := hm0.cell_some hc1 (fun h => h)
      have hll := hrd.len
      have hnx := fewG_get (N := N) hgi (by omega)
      obtain ⟨q, hq⟩ : ∃ q, q = min kk 20 := ⟨_, rfl⟩
      have hqe : (min (kk : Int) 20) = (q : Int) := by omega
      have hqt : (min (kk : Int) 20).toNat = q := by omega
      have hqw : IntKind.i64.wrap (q : Int) = (q : Int) := by rw [IntKind.wrap_i64]; omega
      have hqc : (q : Int) ≤ (cc : Int) := by omega
      have hq0 : (0 : Int) ≤ (q : Int) := by omega
      have htk : l.take 20 = l.take q := by
        rcases Nat.lt_or_ge kk 20 with h | h
        · rw [hq, Nat.min_eq_left (by omega), List.take_of_length_le (by omega), List.take_of_length_le (by omega)]
        · rw [hq, Nat.min_eq_right (by omega)]
      have hd1 : (i : Int) < (n : Int) := by omega
      have hd2 : (i : Int) < (N : Int) := by omega
      clear hc1
      replace ho := Lib.hid ho
      replace hf := Lib.hid hf
      replace hm0 := Lib.hid hm0
      replace hgi := Lib.hid hgi
      replace hrd := Lib.hid hrd
      replace hll := Lib.hid hll
      replace hnx := Lib.hid hnx
      replace hq := Lib.hid hq
      replace htk := Lib.hid htk
      go_wp2_with fail
      have hO1 : Hid (Ow (wr.alloc (.cells #[.slice B q cc] 28)).drew 28 1 G i d (ts.map SV.v)) := Lib.hid (Ow.mod0 ho.out.1 (((Mod.refl none_ wr).alloc _).drew))
      have hR1 : Hid (Rd (wr.alloc (.cells #[.slice B q cc] 28)).drew 1 (some ⟨wr.heap.size, 0, none⟩) 1 ([SV.mk B q cc].map SV.v)) := Lib.hid (Rd.mod0 (rds_one wr _ rfl 28 ⟨B, q, cc⟩) (Mod.refl none_ _).drew)
      go_region_law (refine step_appG (w := (wr.alloc (.cells #[.slice B q cc] 28)).drew) (d := 1) (by rfl) (.tmp 18) (.tmp 30) (by rfl) (by simp [Act.eval]) hO1.out (by simp [Act.eval]) hR1.out (by omega) ?_; intro G2 d2 w5 ho5 hm5 hG5; replace ho5 := Lib.hid ho5; replace hm5 := Lib.hid hm5; replace hG5 := Lib.hid hG5)
      all_goals
        go_wp2_with fail
        go_roundg (gk - 1)
        case measure => omega
        case rel =>
          have hma : Mod none_ wr (wr.alloc (.cells #[.slice B q cc] 28)).drew := ((Mod.refl none_ wr).alloc _).drew
          have hm1 := hm0.out.trans hma
          refine ⟨i + 1, G2, d2, ts ++ [⟨B, q, cc⟩], by go_num, by omega, by simp, ?_, Fresh.app hf.out hm1.size hG5.out, hm1.app hf.out hm5.out⟩
          rw [hnx.out, htk.out]
          refine (ho.out.mod0 hma).push (s := ⟨B, q, cc⟩) (Rd.mod0 (rdi_take (k := q) hrd.out (by have := hq.out; omega)) hm1) (by dsimp only; omega) (by have := hq.out; dsimp only; omega) (fun h0 k hk hG => ?_) ho5.out hm5.out (hG5.out.imp id fun e => ⟨_, e, Nat.le_refl _⟩)
          have h1 := Rd.lt (rdi_take hrd.out (k := q) (by have := hq.out; omega)) h0 k hk
          obtain ⟨x, hx, rfl⟩ := hG
          have := hf.out x hx
          omega
    · obtain rfl : i = m := by omega
      rw [hfull.out] at ho
      replace ho := Lib.hid ho
      replace hf := Lib.hid hf
      replace hm0 := Lib.hid hm0
      by_cases h1 : i < n
      · have h2 : ¬ (i < N) := by omega
        clear hmx
        go_wp2_with fail
        go_ret
        exact ⟨G, d, ts, rfl, ho.out, hf.out, hm0.out⟩
      · clear hmx
        go_wp2_with fail
        go_ret
        exact ⟨G, d, ts, rfl, ho.out, hf.out, hm0.out⟩
end Go.Proofs.Ytenlpklgpcnfiaa
