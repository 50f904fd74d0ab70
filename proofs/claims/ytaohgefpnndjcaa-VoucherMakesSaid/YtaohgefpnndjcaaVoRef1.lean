/-
  The reference's Right. What its Check answers, in plain words.
-/
import Derived.Test.YtaohgefpnndjcaaVoP2
namespace Go.Proofs.Ytaohgefpnndjcaa
set_option linter.unusedVariables false
open Go.RowKit
def firstE (f : Lg → Int) : List Lg → Int
  | [] => 0
  | l :: ls => if f l ≠ 0 then f l else firstE f ls
theorem firstE_congr {f g : Lg → Int} : ∀ {ls : List Lg}, (∀ l ∈ ls, f l = g l) → firstE f ls = firstE g ls
  | [], _ => rfl
  | l :: ls, h => by
    unfold firstE
    rw [h l (by simp), firstE_congr (ls := ls) (fun m hm => h m (List.mem_cons_of_mem _ hm))]
theorem all_first : ∀ (ls : List Lg) {C : List Ac}, SortedC C → (ls.map fun l => l.n).Nodup → (allR C ls).2 = firstE (fun l => (postR C l).2) ls
  | [], _, _, _ => rfl
  | l :: ls, C, hs, hn => by
    rw [List.map_cons, List.nodup_cons] at hn
    have hne : ∀ m ∈ ls, m.n ≠ l.n := fun m hm e => hn.1 (List.mem_map.2 ⟨m, hm, e⟩)
    unfold firstE
    show (if (postR C l).2 ≠ 0 then postR C l else allR (postR C l).1 ls).2 = _
    by_cases h0 : (postR C l).2 = 0
    · rw [if_neg (by omega), if_neg (by omega)]
      rw [(post_eff hs h0).2, all_first ls (upd_sorted hs l) hn.2]
      exact firstE_congr fun m hm => post_agree (get_upd_other (fun e => hne m hm e.symm) C)
    · rw [if_pos h0, if_pos h0]
def checkE (C : List Ac) (l : Lg) : Int :=
  match getC C l.n with
  | none => 6
  | some a => if (actR (0 - l.x)).2 ≠ 0 ∨ (actR (a.h + l.x)).2 ≠ 0 then 2 else if 0 < (actR (0 - l.x)).1 ∧ freeB a (actR (0 - l.x)).1 = false then 9 else 0
theorem actR_two {x : Int} (h : (actR x).2 ≠ 0) : (actR x).2 = 2 := by
  unfold actR at h ⊢
  cases hi : inI x
  · rfl
  · rw [hi] at h; exact absurd rfl h
theorem check_post {C : List Ac} (ho : OkC C) (l : Lg) : (postR C l).2 = checkE C l := by
  unfold postR checkE
  cases hg : getC C l.n with
  | none => rfl
  | some a =>
    dsimp only
    by_cases h1 : (actR (0 - l.x)).2 ≠ 0
    · rw [if_pos h1, if_pos (.inl h1)]; exact actR_two h1
    · rw [if_neg h1]
      have h2 : (actR (0 - l.x)).2 = 0 := by omega
      obtain ⟨_, h3⟩ := actR_zero h2
      unfold turnR
      rw [hg]
      dsimp only
      have e : (giveA (actR (0 - l.x)).1 a).2 = (actR (a.h + l.x)).2 := by
        unfold giveA
        dsimp only
        rw [h3, show a.h - (0 - l.x) = a.h + l.x by omega]
      have e2 : ¬ (giveA (actR (0 - l.x)).1 a).1.s < 0 := by
        have := (ho.wf a (getC_mem hg)).2.2.2.1
        unfold giveA
        dsimp only
        omega
      rw [e]
      by_cases h4 : (actR (a.h + l.x)).2 ≠ 0
      · rw [if_pos h4, if_pos (.inr h4)]; exact actR_two h4
      · rw [if_neg h4]
        conv => rhs; rw [if_neg (by rintro (h | h); exact h1 h; exact h4 h)]
        by_cases h5 : 0 < (actR (0 - l.x)).1 ∧ freeB a (actR (0 - l.x)).1 = false
        · rw [if_pos h5, if_pos h5]
        · rw [if_neg h5, if_neg h5, if_neg e2]
theorem right_dup {ls : List Lg} {i j : Nat} (hij : i < j) (hj : j < ls.length) (h : (ls[i]'(by omega)).n = ls[j].n) : rightB ls = false := by
  cases hr : rightB ls with
  | false => rfl
  | true =>
    obtain ⟨_, hn, _⟩ := (right_iff ls).1 hr
    have := (List.pairwise_iff_getElem.1 hn) i j (by rw [List.length_map]; omega) (by rw [List.length_map]; exact hj) hij
    simp only [List.getElem_map] at this
    exact absurd h this
set_option maxRecDepth 100000 in
set_option maxHeartbeats 2000000 in
theorem rright_ok (w : World) (A : Option Addr) (n c : Nat) (ls : List Lg) (h : RdL w A n ls) (hn : n ≤ 1000) (hz : ∀ l ∈ ls, LgOk l) :
    Calls Try.prog 36 #[.slice A n c] w fun e w' => e = .returned (.bool (rightB ls)) ∧ ∃ k, w' = w.drewN k := by
  have hl := h.len
  have cn := Lib.hid (fun W (s : List UInt8) (h : (txt s).size ≤ maxLen) => rname_ok W (txt s) h)
  have hg : ∀ j, j < n → ∃ b o l, A = some ⟨b, o, none⟩ ∧ l ∈ ls ∧ ls[j]? = some l ∧ w.cell? ⟨b, o + j*2, none⟩ = some (.string (txt l.n)) ∧ w.cell? ⟨b, o + j*2 + 1, none⟩ = some (.int .i64 l.x) := fun j hj => rdl_get h hj
  replace h := Lib.hid h
  replace hz := Lib.hid hz
  replace hg := Lib.hid hg
  go_enter Try.func36, Try.ntmps36
  go_wp2_with fail
  go_loopw [3] (fun x wr => ∃ j : Nat, x = .int .i64 j ∧ j ≤ n ∧ (∀ l ∈ ls.take j, okLeg l = true) ∧ ((ls.take j).map fun l => l.n).Nodup ∧ ∃ k, wr = w.drewN k) (fun x _ => n - (intOf x).toNat)
  case atStart => exact ⟨0, rfl, by omega, (fun l h => by cases h), List.nodup_nil, 0, rfl⟩
  case round =>
    obtain ⟨j, rfl, hj, hall, hnd, kk, rfl⟩ := hrel
    by_cases hlt : j < n
    · obtain ⟨g, o, l, rfl, hmem, hjl, y1, y2⟩ := hg.out j hlt
      have hjlt : j < ls.length := by omega
      have hjl2 : ls[j] = l := by rw [List.getElem?_eq_getElem hjlt] at hjl; injection hjl
      have hlok := hz.out l hmem
      have hno : okLeg l = false → rightB ls = false := right_no hmem
      have hc := Lib.hid (fun W => cn.out W l.n hlok.1)
      rw [show (txt l.n).data.toList = l.n from rfl] at hc
      cases hb : nameB l.n with
      | false =>
        rw [hb] at hc
        have hres := hno (by unfold okLeg; rw [hb]; rfl)
        clear hno
        replace hall := Lib.hid hall
        replace hnd := Lib.hid hnd
        replace hmem := Lib.hid hmem
        replace hjl := Lib.hid hjl
        replace hjl2 := Lib.hid hjl2
        replace hlok := Lib.hid hlok
        replace hb := Lib.hid hb
        replace hres := Lib.hid hres
        go_wp2_with fail
        refine (hc.out _).mono ?_
        rintro e w1 ⟨rfl, rfl⟩
        dsimp only
        go_wp2_with fail
        go_ret
        exact ⟨by rw [hres.out]; rfl, _, rfl⟩
      | true =>
        rw [hb] at hc
        by_cases hx0 : l.x = 0
        · have hres := hno (by unfold okLeg; rw [hb, hx0]; rfl)
          rw [hx0] at y2
          clear hno
          replace hall := Lib.hid hall
          replace hnd := Lib.hid hnd
          replace hmem := Lib.hid hmem
          replace hjl := Lib.hid hjl
          replace hjl2 := Lib.hid hjl2
          replace hlok := Lib.hid hlok
          replace hb := Lib.hid hb
          replace hres := Lib.hid hres
          replace hx0 := Lib.hid hx0
          go_wp2_with fail
          refine (hc.out _).mono ?_
          rintro e w1 ⟨rfl, rfl⟩
          dsimp only
          go_wp2_with fail
          go_ret
          exact ⟨by rw [hres.out]; rfl, _, rfl⟩
        · have hok : okLeg l = true := by unfold okLeg; rw [hb]; simpa using hx0
          obtain ⟨x, hx⟩ : ∃ x, l.x = x := ⟨_, rfl⟩
          have e2 : (x == 0) = false := by rw [← hx]; simpa using hx0
          rw [hx] at y2
          clear hno
          replace hall := Lib.hid hall
          replace hnd := Lib.hid hnd
          replace hmem := Lib.hid hmem
          replace hjl := Lib.hid hjl
          replace hlok := Lib.hid hlok
          replace hb := Lib.hid hb
          replace hx0 := Lib.hid hx0
          replace hx := Lib.hid hx
          replace hok := Lib.hid hok
          go_wp2_with fail
          refine (hc.out _).mono ?_
          rintro e w1 ⟨rfl, rfl⟩
          dsimp only
          go_wp2_with fail
          go_loopw [4] (fun x wr2 => ∃ i : Nat, x = .int .i64 i ∧ i ≤ j ∧ (∀ y ∈ ls.take i, y.n ≠ l.n) ∧ ∃ k, wr2 = w.drewN k) (fun x _ => j - (intOf x).toNat)
          case atStart => exact ⟨0, rfl, by omega, (fun l h => by cases h), kk, rfl⟩
          case round =>
            obtain ⟨i, rfl, hi, hne, k2, rfl⟩ := hrel
            by_cases hij : i < j
            · obtain ⟨g', o', y, hge, hmy, hiy, u1, u2⟩ := hg.out i (by omega)
              have hge1 : g = g' ∧ o = o' := by injection hge with h; injection h with h1 h2; exact ⟨h1, h2⟩
              obtain ⟨rfl, rfl⟩ := hge1
              clear hge
              have hilt : i < ls.length := by omega
              have hiy2 : ls[i] = y := by rw [List.getElem?_eq_getElem hilt] at hiy; injection hiy
              by_cases hyn : y.n = l.n
              · have hres := right_dup hij hjlt (by rw [hiy2, hjl2]; exact hyn)
                rw [hyn] at u1
                replace hne := Lib.hid hne
                replace hmy := Lib.hid hmy
                replace hiy := Lib.hid hiy
                replace hiy2 := Lib.hid hiy2
                replace hyn := Lib.hid hyn
                replace hres := Lib.hid hres
                replace hjl2 := Lib.hid hjl2
                go_wp2_with fail
                go_quiet (fail)
                go_wp2_with fail
                go_ret
                exact ⟨by rw [hres.out]; rfl, _, by rw [World.drewN_drewN]⟩
              · have e3 : (y.n == l.n) = false := by simpa using hyn
                have hnx : ∀ z ∈ ls.take (i + 1), z.n ≠ l.n := fun z hz' => by
                  rw [List.take_succ_eq_append_getElem hilt, List.mem_append] at hz'
                  rcases hz' with hz' | hz'
                  · exact hne z hz'
                  · simp at hz'; rw [hz', hiy2]; exact hyn
                generalize y.n = yn at u1 e3
                replace hne := Lib.hid hne
                replace hmy := Lib.hid hmy
                replace hiy := Lib.hid hiy
                replace hiy2 := Lib.hid hiy2
                replace hyn := Lib.hid hyn
                replace hnx := Lib.hid hnx
                replace hjl2 := Lib.hid hjl2
                go_wp2_with fail
                go_quiet (fail)
                go_wp2_with fail
                go_roundw
                case rel => exact ⟨i + 1, by go_num, by omega, hnx.out, _, rfl⟩
                case measure => simp [intOf]; omega
            · have hieq : i = j := by omega
              subst hieq
              have htk : ls.take (i + 1) = ls.take i ++ [l] := by rw [List.take_succ_eq_append_getElem hjlt, hjl2]
              have hall2 : ∀ y ∈ ls.take (i + 1), okLeg y = true := fun y hy => by
                rw [htk, List.mem_append] at hy
                rcases hy with hy | hy
                · exact hall.out y hy
                · simp at hy; subst hy; exact hok.out
              have hnd2 : ((ls.take (i + 1)).map fun l => l.n).Nodup := by
                rw [htk, List.map_append, List.nodup_append]
                refine ⟨hnd.out, by simp, ?_⟩
                intro a ha b hb' hab
                obtain ⟨z, hz', rfl⟩ := List.mem_map.1 ha
                simp at hb'
                exact hne z hz' (by rw [hab, hb'])
              replace hne := Lib.hid hne
              replace hall2 := Lib.hid hall2
              replace hnd2 := Lib.hid hnd2
              replace htk := Lib.hid htk
              replace hjl2 := Lib.hid hjl2
              go_wp2_with fail
              go_roundw
              case rel => exact ⟨i + 1, by go_num, by omega, hall2.out, hnd2.out, _, rfl⟩
              case measure => simp [intOf]; omega
    · have hjn : j = n := by omega
      subst hjn
      have hfull : ls.take j = ls := List.take_of_length_le (by omega)
      rw [hfull] at hall hnd
      have hres : rightB ls = (decide (2 ≤ j) && decide (j ≤ 6)) := by
        rw [Bool.eq_iff_iff, right_iff, Bool.and_eq_true, decide_eq_true_iff, decide_eq_true_iff, hl]
        exact ⟨fun h => h.2.2, fun h => ⟨hall, hnd, h⟩⟩
      clear hfull
      by_cases h2 : 2 ≤ j
      · have d2 : decide ((2 : Int) ≤ (j : Int)) = true := decide_eq_true (by omega)
        rw [decide_eq_true h2, Bool.true_and] at hres
        replace hall := Lib.hid hall
        replace hnd := Lib.hid hnd
        replace hres := Lib.hid hres
        go_wp2_with fail
        go_ret
        refine ⟨?_, _, rfl⟩
        rw [hres.out]
        show Ending.returned (.bool (decide ((j : Int) ≤ 6))) = _
        congr 2
        exact decide_eq_decide.2 (by omega)
      · have d2 : decide ((2 : Int) ≤ (j : Int)) = false := decide_eq_false (by omega)
        rw [decide_eq_false h2, Bool.false_and] at hres
        replace hall := Lib.hid hall
        replace hnd := Lib.hid hnd
        replace hres := Lib.hid hres
        go_wp2_with fail
        go_ret
        exact ⟨by rw [hres.out]; rfl, _, rfl⟩
end Go.Proofs.Ytaohgefpnndjcaa
