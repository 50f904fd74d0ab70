import Derived.Test.YtaohgefpnndjcaaNq7
import Derived.Test.YtaohgefpnndjcaaNq6
import Derived.Test.YtaohgefpnndjcaaNq1
import Derived.ProofKit
import Derived.OpenShut
import Derived.ChangeOld
import Derived.SizedLaws
import Derived.Deep.Slices
import Derived.Deep.Fields
import Derived.Lib.SmallJoins
/-
  The contracts of voucher's right, weigh, post, all, Check, Make.
-/
namespace Go.Proofs.Ytaohgefpnndjcaa
set_option linter.unusedVariables false
open Go.RowKit
def lgs (ls : List Lg) : List Value := ls.flatMap fun l => [.string (txt l.n), .int .i64 l.x]
theorem lgs_length (ls : List Lg) : (lgs ls).length = ls.length * 2 := flat_length _ 2 (fun _ => rfl) ls
theorem lgs_append (C D : List Lg) : lgs (C ++ D) = lgs C ++ lgs D := by unfold lgs; rw [List.flatMap_append]
def RdL (w : World) (A : Option Addr) (n : Nat) (ls : List Lg) : Prop := Rd w 2 A n (lgs ls)
theorem RdL.len {w : World} {A : Option Addr} {n : Nat} {ls : List Lg} (h : RdL w A n ls) : ls.length = n := by have := h.1; rw [lgs_length] at this; omega
theorem RdL.mod0 {w w' : World} {A : Option Addr} {n : Nat} {ls : List Lg} (h : RdL w A n ls) (hm : Mod none_ w w') : RdL w' A n ls := Rd.mod0 h hm
theorem rdl_get {w : World} {A : Option Addr} {n : Nat} {ls : List Lg} (h : RdL w A n ls) {j : Nat} (hj : j < n) : ∃ b o l, A = some ⟨b, o, none⟩ ∧ l ∈ ls ∧ ls[j]? = some l ∧
    w.cell? ⟨b, o + j*2, none⟩ = some (.string (txt l.n)) ∧ w.cell? ⟨b, o + j*2 + 1, none⟩ = some (.int .i64 l.x) := by
  have hl := h.len
  obtain ⟨b, o, e, hc⟩ := Rd.form h (show 0 < n by omega) (by omega)
  have hjl : j < ls.length := by omega
  have hg := flat_get (fun l : Lg => [Value.string (txt l.n), .int .i64 l.x]) 2 (fun _ => rfl) ls j ls[j] (List.getElem?_eq_getElem hjl)
  refine ⟨b, o, ls[j], e, List.getElem_mem hjl, List.getElem?_eq_getElem hjl, ?_, ?_⟩
  · exact hc (j*2) _ (hg 0 (by omega))
  · rw [Nat.add_assoc]; exact hc (j*2+1) _ (hg 1 (by omega))
def RgRel (w : World) (b : Nat) (ls : List Lg) (j : Nat) (wr : World) : Prop := MapAt wr 9 b (seenL (ls.take j)) ∧ (∀ l ∈ ls.take j, okLeg l = true) ∧ Mod none_ w wr
theorem right_no {ls : List Lg} {l : Lg} (h : l ∈ ls) (h0 : okLeg l = false) : rightB ls = false := by
  unfold rightB
  have : ls.all okLeg = false := by rw [List.all_eq_false]; exact ⟨l, h, by rw [h0]; simp⟩
  rw [this]; rfl
set_option maxRecDepth 100000 in
set_option maxHeartbeats 2000000 in
theorem right_ok (w : World) (A : Option Addr) (n c : Nat) (ls : List Lg) (h : RdL w A n ls) (hn : n ≤ 1000) (hz : ∀ l ∈ ls, LgOk l) :
    Calls Try.prog 33 #[.slice A n c] w fun e w' => e = .returned (.bool (rightB ls)) ∧ Mod none_ w w' := by
  have hl := h.len
  have hmk := fun W => run_makeMap (P := Try.prog) 81 W
  have cn := Lib.hid (fun W s => name_ok W s)
  replace h := Lib.hid h
  replace hz := Lib.hid hz
  go_enter Try.func33, Try.ntmps33
  go_wp2_with fail
  have hw0 : w.heap.size ≤ (w.alloc (.map #[] 0)).heap.size := by simp
  go_loopw [9] (fun x wr => ∃ j : Nat, x = .int .i64 j ∧ j ≤ n ∧ RgRel w w.heap.size ls j wr) (fun x _ => n - (intOf x).toNat)
  case atStart => exact ⟨0, rfl, by omega, MapAt.made w _, (fun l h => by cases h), (Mod.refl _ _).alloc _⟩
  case round =>
    obtain ⟨j, rfl, hj, hM, hall, hm⟩ := hrel
    by_cases hlt : j < n
    · obtain ⟨g, o, l, rfl, hmem, hjl, y1, y2⟩ := rdl_get (h.out.mod0 hm) hlt
      have hlok := hz.out l hmem
      have hgl := World.block_lt_of_cell? wr _ y1
      have htk : ls.take (j + 1) = ls.take j ++ [l] := by
        have hjlt : j < ls.length := by omega
        rw [List.getElem?_eq_getElem hjlt] at hjl
        injection hjl with hjl
        rw [List.take_succ_eq_append_getElem hjlt, hjl]
      have hno : okLeg l = false → rightB ls = false := right_no hmem
      have hyes : okLeg l = true → ∀ y ∈ ls.take (j + 1), okLeg y = true := fun h0 y hy => by
        rw [htk, List.mem_append] at hy
        rcases hy with hy | hy
        · exact hall y hy
        · simp at hy; subst hy; exact h0
      have hslen : (seenL (ls.take j)).length ≤ 1000 := by have := (seenL_len (ls.take j)).1; rw [List.length_take] at this; omega
      have hnx : seenL (ls.take (j + 1)) = putL l.n (.bool true) (seenL (ls.take j)) := by rw [htk, seenL_snoc]
      have cname := Lib.hid (fun W => cn.out W (txt l.n))
      rw [show (txt l.n).data.toList = l.n from rfl] at cname
      have hbl := hM.lt
      cases hb : nameB l.n with
      | false =>
        rw [hb] at cname
        have hr := hno (by unfold okLeg; rw [hb]; rfl)
        clear hno hyes
        replace hM := Lib.hid hM
        replace hall := Lib.hid hall
        replace hm := Lib.hid hm
        replace hmem := Lib.hid hmem
        replace hjl := Lib.hid hjl
        replace hlok := Lib.hid hlok
        replace htk := Lib.hid htk
        replace hr := Lib.hid hr
        replace hslen := Lib.hid hslen
        replace hnx := Lib.hid hnx
        replace hb := Lib.hid hb
        go_wp2_with fail
        refine (cname.out _).mono ?_
        rintro e w1 ⟨rfl, hm1⟩
        dsimp only
        have hmm := Lib.hid ((hm.out.alloc _).trans hm1)
        clear hm1
        go_wp2_with fail
        go_ret
        exact ⟨by rw [hr.out]; rfl, hmm.out⟩
      | true =>
        rw [hb] at cname
        by_cases hx0 : l.x = 0
        · have hr := hno (by unfold okLeg; rw [hb, hx0]; rfl)
          rw [hx0] at y2
          clear hno hyes
          replace hM := Lib.hid hM
          replace hall := Lib.hid hall
          replace hm := Lib.hid hm
          replace hmem := Lib.hid hmem
          replace hjl := Lib.hid hjl
          replace hlok := Lib.hid hlok
          replace htk := Lib.hid htk
          replace hr := Lib.hid hr
          replace hslen := Lib.hid hslen
          replace hnx := Lib.hid hnx
          replace hb := Lib.hid hb
          replace hx0 := Lib.hid hx0
          go_wp2_with fail
          refine (cname.out _).mono ?_
          rintro e w1 ⟨rfl, hm1⟩
          dsimp only
          have q1 : w1.cell? ⟨wr.heap.size, 1, none⟩ = some (.int .i64 0) := ((Blk.new wr 44 #[.string (txt l.n), .int .i64 0]).mod hm1 (fun h => h)).cell_ rfl
          have hmm := Lib.hid ((hm.out.alloc _).trans hm1)
          clear hm1
          go_wp2_with fail
          go_ret
          exact ⟨by rw [hr.out]; rfl, hmm.out⟩
        · have hr := hyes (by unfold okLeg; rw [hb]; simpa using hx0)
          have e1 : (l.x == 0) = false := by simpa using hx0
          have hxy : ∀ x, l.x = x → (x == 0) = false := fun x hx => by rw [← hx]; exact e1
          obtain ⟨x, hx⟩ : ∃ x, l.x = x := ⟨_, rfl⟩
          have e2 := hxy x hx
          rw [hx] at y2
          clear hno hyes hxy e1 hx0
          replace hM := Lib.hid hM
          replace hall := Lib.hid hall
          replace hm := Lib.hid hm
          replace hmem := Lib.hid hmem
          replace hjl := Lib.hid hjl
          replace hlok := Lib.hid hlok
          replace htk := Lib.hid htk
          replace hr := Lib.hid hr
          replace hslen := Lib.hid hslen
          replace hnx := Lib.hid hnx
          replace hb := Lib.hid hb
          replace hx := Lib.hid hx
          go_wp2_with fail
          refine (cname.out _).mono ?_
          rintro e w1 ⟨rfl, hm1⟩
          dsimp only
          have hB := (Blk.new wr 44 #[.string (txt l.n), .int .i64 x]).mod hm1 (fun h => h)
          have q0 : w1.cell? ⟨wr.heap.size, 0, none⟩ = some (.string (txt l.n)) := hB.cell_ rfl
          have q1 : w1.cell? ⟨wr.heap.size, 1, none⟩ = some (.int .i64 x) := hB.cell_ rfl
          have hM1 := Lib.hid ((hM.out.alloc (.cells #[.string (txt l.n), .int .i64 x] 44)).mod hm1 (fun h => h))
          have hmm := Lib.hid ((hm.out.alloc (.cells #[.string (txt l.n), .int .i64 x] 44)).trans hm1)
          clear hm1 hB
          go_wp2_with (refine map_store _ rfl (.tmp 22) (.tmp 24) (.const (.bool true)) _ rfl 9 4 Try.underlying81 Try.underlying9 w.heap.size _ rfl hM1.out (by have := hslen.out; unfold maxLen; omega) (txt l.n) hlok.out.1 rfl (.bool true) rfl ?_; intro W' hM' hm' hsz'; replace hM' := Lib.hid hM'; replace hm' := Lib.hid hm'; replace hsz' := Lib.hid hsz')
          go_roundw
          case rel =>
            refine ⟨j + 1, by go_num, by omega, ?_, hr.out, hmm.out.then hm'.out (fun i hi he => by have : i = w.heap.size := he; omega)⟩
            rw [hnx.out]; exact hM'.out
          case measure => simp [intOf]; omega
    · have hjn : j = n := by omega
      subst hjn
      have hfull : ls.take j = ls := List.take_of_length_le (by omega)
      rw [hfull] at hM hall
      have hres : rightB ls = (decide ((seenL ls).length = ls.length) && decide (2 ≤ ls.length) && decide (ls.length ≤ 6)) := by
        unfold rightB
        rw [show ls.all okLeg = true from List.all_eq_true.2 hall, Bool.true_and]
      rw [hl] at hres
      obtain ⟨k, hk⟩ : ∃ k, (seenL ls).length = k := ⟨_, rfl⟩
      rw [hk] at hres
      clear hfull
      by_cases h1 : k = j
      · by_cases h2 : 2 ≤ j
        · have d1 : ((k : Int) == (j : Int)) = true := by simp [h1]
          have d2 : decide ((2 : Int) ≤ (j : Int)) = true := decide_eq_true (by omega)
          rw [decide_eq_true h1, decide_eq_true h2] at hres
          replace hM := Lib.hid hM
          replace hall := Lib.hid hall
          replace hm := Lib.hid hm
          replace hres := Lib.hid hres
          replace hk := Lib.hid hk
          replace h1 := Lib.hid h1
          go_wp2_with (refine map_len _ rfl (.tmp 26) _ rfl 9 4 Try.underlying81 w.heap.size _ rfl hM.out ?_; rw [hk.out])
          go_ret
          exact ⟨by rw [hres.out]; simp; omega, hm.out⟩
        · have d1 : ((k : Int) == (j : Int)) = true := by simp [h1]
          have d2 : decide ((2 : Int) ≤ (j : Int)) = false := decide_eq_false (by omega)
          rw [decide_eq_true h1, decide_eq_false h2] at hres
          replace hM := Lib.hid hM
          replace hall := Lib.hid hall
          replace hm := Lib.hid hm
          replace hres := Lib.hid hres
          replace hk := Lib.hid hk
          replace h1 := Lib.hid h1
          go_wp2_with (refine map_len _ rfl (.tmp 26) _ rfl 9 4 Try.underlying81 w.heap.size _ rfl hM.out ?_; rw [hk.out])
          go_ret
          exact ⟨by rw [hres.out]; simp, hm.out⟩
      · have d1 : ((k : Int) == (j : Int)) = false := by rw [beq_eq_false_iff_ne]; omega
        have d3 : (k == j) = false := by rw [beq_eq_false_iff_ne]; exact h1
        rw [decide_eq_false h1] at hres
        replace hM := Lib.hid hM
        replace hall := Lib.hid hall
        replace hm := Lib.hid hm
        replace hres := Lib.hid hres
        replace hk := Lib.hid hk
        replace h1 := Lib.hid h1
        go_wp2_with (refine map_len _ rfl (.tmp 26) _ rfl 9 4 Try.underlying81 w.heap.size _ rfl hM.out ?_; rw [hk.out])
        go_ret
        exact ⟨by rw [hres.out]; simp, hm.out⟩
set_option maxRecDepth 100000 in
set_option maxHeartbeats 2000000 in
theorem weigh_ok (w : World) (A : Option Addr) (n c : Nat) (ls : List Lg) (h : RdL w A n ls) (hn : n ≤ 1000) (hz : ∀ l ∈ ls, LgOk l) :
    Calls Try.prog 34 #[.slice A n c] w fun e w' => e = .returned (.bool (weighB ls)) ∧ Mod none_ w w' := by
  have hl := h.len
  have hin : I64s (ls.map fun l : Lg => l.x) := by
    intro y hy
    obtain ⟨a, ha, rfl⟩ := List.mem_map.1 hy
    exact (hz a ha).2
  replace h := Lib.hid h
  replace hz := Lib.hid hz
  replace hin := Lib.hid hin
  go_enter Try.func34, Try.ntmps34
  go_wp2_with fail
  go_loopw [3, 10] (fun v x wr => ∃ j : Nat, x = .int .i64 j ∧ j ≤ n ∧ ∃ A' c', v = .slice A' j c' ∧ OwI wr A' j c' ((ls.map fun l : Lg => l.x).take j) ∧ Fresh w A' ∧ Mod none_ w wr) (fun _ x _ => n - (intOf x).toNat)
  case atStart => exact ⟨0, rfl, by omega, none, 0, rfl, Ow.nil _ _ _, (fun _ h => by cases h), Mod.refl _ _⟩
  case round =>
    obtain ⟨j, rfl, hj, A', c', rfl, how, hf, hm⟩ := hrel
    by_cases hlt : j < n
    · obtain ⟨g, o, l, rfl, hmem, hjl, y1, y2⟩ := rdl_get (h.out.mod0 hm) hlt
      have hnx : ((ls.map fun l : Lg => l.x).take j) ++ [l.x] = ((ls.map fun l : Lg => l.x).take (j+1)) := by
        have hjlt : j < ls.length := by omega
        rw [List.getElem?_eq_getElem hjlt] at hjl
        injection hjl with hjl
        rw [List.take_succ_eq_append_getElem (by simpa using hjlt), List.getElem_map, hjl]
      have hgl := World.block_lt_of_cell? wr _ y2
      obtain ⟨x, hx⟩ : ∃ x, l.x = x := ⟨_, rfl⟩
      rw [hx] at y2 hnx
      replace how := Lib.hid how
      replace hf := Lib.hid hf
      replace hm := Lib.hid hm
      replace hnx := Lib.hid hnx
      replace hmem := Lib.hid hmem
      replace hjl := Lib.hid hjl
      replace hx := Lib.hid hx
      go_wp2_with (at_builtin; go_loud (refine app64 rfl (.tmp 14) (.tmp 17) rfl rfl (Ow.mod0 how.out (((Mod.refl none_ _).alloc _).alloc _)) rfl (rdi_one' _ _ (wr.heap.size + 1) (by simp) _) (by omega) ?_; intro A2 c2 w2 ho2 hm2 hA2; replace ho2 := Lib.hid ho2; replace hm2 := Lib.hid hm2; replace hA2 := Lib.hid hA2))
      go_roundw
      case rel =>
        refine ⟨j + 1, by go_num, by omega, A2, c2, rfl, ?_, Fresh.app hf.out ((hm.out.alloc _).alloc _).size hA2.out, ((hm.out.alloc _).alloc _).app hf.out hm2.out⟩
        rw [← hnx.out]; exact ho2.out
      case measure => simp [intOf]; omega
    · have hall : ((ls.map fun l : Lg => l.x).take j) = ls.map fun l : Lg => l.x := List.take_of_length_le (by rw [List.length_map]; omega)
      rw [hall] at how
      have hjn : j ≤ 1000 := by omega
      have ct := Lib.hid (total_ok wr A' j c' (ls.map fun l : Lg => l.x) (Ow.rd how) (by omega) hin.out)
      have hres : weighB ls = (decide (isum (ls.map fun l => l.x) = 0)) := rfl
      generalize isum (ls.map fun l : Lg => l.x) = t at ct hres
      clear hall
      by_cases h0 : t = 0
      · subst h0
        rw [show sumR 0 = (0, 0) from rfl] at ct
        rw [show decide ((0:Int) = 0) = true from rfl] at hres
        replace how := Lib.hid how
        replace hf := Lib.hid hf
        replace hm := Lib.hid hm
        replace hres := Lib.hid hres
        go_wp2_with fail
        refine ct.out.mono ?_
        rintro e w3 ⟨rfl, rfl⟩
        dsimp only
        go_wp2_with fail
        go_ret
        exact ⟨by rw [hres.out]; rfl, hm.out⟩
      · rw [decide_eq_false h0] at hres
        cases hi : inI t with
        | false =>
          rw [sumR_no hi] at ct
          replace how := Lib.hid how
          replace hf := Lib.hid hf
          replace hm := Lib.hid hm
          replace hres := Lib.hid hres
          go_wp2_with fail
          refine ct.out.mono ?_
          rintro e w3 ⟨rfl, rfl⟩
          dsimp only
          go_wp2_with fail
          go_ret
          exact ⟨by rw [hres.out]; rfl, hm.out⟩
        | true =>
          rw [sumR_yes hi] at ct
          have e1 : (t == 0) = false := by simpa using h0
          replace how := Lib.hid how
          replace hf := Lib.hid hf
          replace hm := Lib.hid hm
          replace hres := Lib.hid hres
          replace h0 := Lib.hid h0
          go_wp2_with fail
          refine ct.out.mono ?_
          rintro e w3 ⟨rfl, rfl⟩
          dsimp only
          go_wp2_with fail
          go_ret
          exact ⟨by rw [hres.out]; simp, hm.out⟩
set_option maxRecDepth 100000 in
set_option maxHeartbeats 2000000 in
theorem post_ok (w : World) (p b : Nat) (C : List Ac) (l : Lg) (hc : ChAt w p b C) (hz : LgOk l) (ho : OkC C) :
    Calls Try.prog 57 #[.pointer (some ⟨p, 0, none⟩), .agg #[.string (txt l.n), .int .i64 l.x]] w (ChPost w p b (postR C l)) := by
  have c0 := Lib.hid (fun W (h : ChAt W p b C) => get_ok W p b C (txt l.n) h hz.1)
  have c1 := Lib.hid (fun W => less_act W 0 l.x (by unfold I64; omega) hz.2)
  rw [show (txt l.n).data.toList = l.n from rfl] at c0
  unfold postR
  unfold getV at c0
  cases hg : getC C l.n with
  | none =>
    rw [hg] at c0
    unfold zeroA at c0
    replace hc := Lib.hid hc
    replace hz := Lib.hid hz
    replace ho := Lib.hid ho
    replace hg := Lib.hid hg
    go_enter Try.func57, Try.ntmps57
    go_wp2_with fail
    refine (c0.out _ (hc.out.alloc _)).mono ?_
    rintro e w1 ⟨rfl, hm1⟩
    dsimp only
    have hch := Lib.hid (((hc.out.alloc (.cells #[.string (txt l.n), .int .i64 l.x] 44)).mod0 hm1).alloc (.cells #[.string ⟨#[]⟩, .int .i64 0, .int .i64 0, .int .i64 0] 46))
    have hmm := Lib.hid (((((Mod.refl none_ w).alloc (.cells #[.string (txt l.n), .int .i64 l.x] 44))).trans hm1).alloc (.cells #[.string ⟨#[]⟩, .int .i64 0, .int .i64 0, .int .i64 0] 46))
    clear hm1
    go_wp2_with fail
    go_ret
    exact ⟨rfl, hch.out, hmm.out.any _⟩
  | some a =>
    rw [hg] at c0
    dsimp only
    unfold acV at c0
    have hx2 : I64 (actR (0 - l.x)).1 := actR_i64 _
    obtain ⟨⟨r1, r2⟩, hr⟩ : ∃ r, actR (0 - l.x) = r := ⟨_, rfl⟩
    rw [hr] at hx2 c1 ⊢
    dsimp only at hx2 c1 ⊢
    have c2 := Lib.hid (fun W (h : ChAt W p b C) => give_ok W p b C (txt l.n) r1 h hz.1 ho.wf hx2 (by have := ho.2; unfold maxLen; omega))
    rw [show (txt l.n).data.toList = l.n from rfl] at c2
    by_cases h2 : r2 = 0
    · subst h2
      rw [if_neg (by simp)]
      generalize turnR C l.n r1 (giveA r1) = rr at *
      replace hc := Lib.hid hc
      replace hz := Lib.hid hz
      replace ho := Lib.hid ho
      replace hg := Lib.hid hg
      replace hx2 := Lib.hid hx2
      replace hr := Lib.hid hr
      go_enter Try.func57, Try.ntmps57
      go_wp2_with fail
      refine (c0.out _ (hc.out.alloc _)).mono ?_
      rintro e w1 ⟨rfl, hm1⟩
      dsimp only
      have hB := Lib.hid (((Blk.new w 44 #[.string (txt l.n), .int .i64 l.x]).mod hm1 (fun h => h)).alloc (.cells #[.string (txt a.n), .int .i64 a.h, .int .i64 a.s, .int .i64 a.l] 46))
      have hch := Lib.hid (((hc.out.alloc (.cells #[.string (txt l.n), .int .i64 l.x] 44)).mod0 hm1).alloc (.cells #[.string (txt a.n), .int .i64 a.h, .int .i64 a.s, .int .i64 a.l] 46))
      have hmm := Lib.hid (((((Mod.refl none_ w).alloc (.cells #[.string (txt l.n), .int .i64 l.x] 44))).trans hm1).alloc (.cells #[.string (txt a.n), .int .i64 a.h, .int .i64 a.s, .int .i64 a.l] 46))
      have q0 := hB.out.cell 0
      have q1 := hB.out.cell 1
      have hwl : w.heap.size < w1.heap.size := by have := hm1.size; simp at this; omega
      have p0 : w1.cell? ⟨w.heap.size, 0, none⟩ = some (.string (txt l.n)) := ((Blk.new w 44 #[.string (txt l.n), .int .i64 l.x]).mod hm1 (fun h => h)).cell_ rfl
      have p1 : w1.cell? ⟨w.heap.size, 1, none⟩ = some (.int .i64 l.x) := ((Blk.new w 44 #[.string (txt l.n), .int .i64 l.x]).mod hm1 (fun h => h)).cell_ rfl
      clear hm1 q0 q1
      go_wp2_with fail
      refine (c1.out _).mono ?_
      rintro e w2 ⟨rfl, rfl⟩
      dsimp only
      go_wp2_with fail
      refine (c2.out _ hch.out).mono ?_
      rintro e w3 ⟨rfl, hc3, hm3⟩
      dsimp only
      replace hc3 := Lib.hid hc3
      replace hm3 := Lib.hid hm3
      go_wp2_with fail
      go_ret
      exact ⟨rfl, hc3.out, (hmm.out.any _).trans hm3.out⟩
    · rw [if_pos (by simpa using h2)]
      have e1 : (r2 == 0) = false := by simpa using h2
      replace hc := Lib.hid hc
      replace hz := Lib.hid hz
      replace ho := Lib.hid ho
      replace hg := Lib.hid hg
      replace hx2 := Lib.hid hx2
      replace hr := Lib.hid hr
      replace h2 := Lib.hid h2
      go_enter Try.func57, Try.ntmps57
      go_wp2_with fail
      refine (c0.out _ (hc.out.alloc _)).mono ?_
      rintro e w1 ⟨rfl, hm1⟩
      dsimp only
      have hch := Lib.hid (((hc.out.alloc (.cells #[.string (txt l.n), .int .i64 l.x] 44)).mod0 hm1).alloc (.cells #[.string (txt a.n), .int .i64 a.h, .int .i64 a.s, .int .i64 a.l] 46))
      have hmm := Lib.hid (((((Mod.refl none_ w).alloc (.cells #[.string (txt l.n), .int .i64 l.x] 44))).trans hm1).alloc (.cells #[.string (txt a.n), .int .i64 a.h, .int .i64 a.s, .int .i64 a.l] 46))
      have hwl : w.heap.size < w1.heap.size := by have := hm1.size; simp at this; omega
      have p0 : w1.cell? ⟨w.heap.size, 0, none⟩ = some (.string (txt l.n)) := ((Blk.new w 44 #[.string (txt l.n), .int .i64 l.x]).mod hm1 (fun h => h)).cell_ rfl
      have p1 : w1.cell? ⟨w.heap.size, 1, none⟩ = some (.int .i64 l.x) := ((Blk.new w 44 #[.string (txt l.n), .int .i64 l.x]).mod hm1 (fun h => h)).cell_ rfl
      clear hm1
      go_wp2_with fail
      refine (c1.out _).mono ?_
      rintro e w2 ⟨rfl, rfl⟩
      dsimp only
      go_wp2_with fail
      go_ret
      exact ⟨rfl, hch.out, hmm.out.any _⟩
end Go.Proofs.Ytaohgefpnndjcaa
/-
  Opening an argument's reading: what lies in memory where a slice of numbers, of bytes, of structs came in. No condition.
-/
namespace Go.Proofs.Ytaohgefpnndjcaa
set_option linter.unusedVariables false
open Go.RowKit Go.ChangeShapes Go.WideShapes Go.Deep

theorem list_choice {α : Type} (p : Nat → α → Prop) : ∀ n, (∀ i, i < n → ∃ e, p i e) → ∃ es : List α, es.length = n ∧ ∀ i e, es[i]? = some e → p i e := by
  intro n
  induction n with
  | zero => intro _; exact ⟨[], rfl, fun i e h => by simp at h⟩
  | succ n ih =>
    intro h
    obtain ⟨es, hl, he⟩ := ih fun i hi => h i (by omega)
    obtain ⟨x, hx⟩ := h n (by omega)
    refine ⟨es ++ [x], by simp [hl], fun i e hi => ?_⟩
    by_cases hin : i < es.length
    · rw [List.getElem?_append_left hin] at hi
      exact he i e hi
    · rw [List.getElem?_append_right (by omega)] at hi
      have : i = es.length := by
        rcases Nat.lt_or_ge (i - es.length) 1 with h1 | h1
        · omega
        · rw [List.getElem?_eq_none (by simpa using h1)] at hi; cases hi
      subst this
      simp at hi
      subst hi
      rw [hl]; exact hx

theorem flat_range' {α : Type} (f : α → List Value) (css : Nat → List Value) : ∀ (es : List α) (s : Nat), (∀ i e, es[i]? = some e → css (s + i) = f e) → (List.range' s es.length).flatMap css = es.flatMap f := by
  intro es
  induction es with
  | nil => intro _ _; rfl
  | cons x es ih =>
    intro s h
    rw [List.length_cons, List.range'_succ, List.flatMap_cons, List.flatMap_cons, ih (s + 1) fun i e hi => by
      have := h (i + 1) e (by simpa using hi)
      rw [← this]; congr 1; omega]
    rw [← h 0 x (by simp)]
    rfl
theorem flat_range {α : Type} (f : α → List Value) (css : Nat → List Value) (es : List α) (h : ∀ i e, es[i]? = some e → css i = f e) : (List.range es.length).flatMap css = es.flatMap f := by
  rw [List.range_eq_range']
  exact flat_range' f css es 0 fun i e hi => by rw [Nat.zero_add]; exact h i e hi

section
variable {H : Type} {enc : TypeId × Value → H} {P : Program} {w : World} {held : Bool}

/-- What the form's own reach says of a datum. -/
def Wd (P : Program) (t : TypeId) (d : DataW H) : Prop := ∀ n ∈ d.weights P t, n ≤ 140737488351232
theorem wd_arg {ts : List TypeId} {ds : List (DataW H)} (h : (DataW.weightsEach P ts ds).all (· ≤ reachBytes) = true) {j : Nat} {t : TypeId} {d : DataW H} (ht : ts[j]? = some t) (hd : ds[j]? = some d) : Wd P t d := by
  intro n hn
  have := List.all_eq_true.1 h _ (DataW.weights_mem_each ht hd n hn)
  have e : reachBytes = 140737488351232 := by decide
  simpa [e] using this
theorem wd_each {ts : List TypeId} {ds : List (DataW H)} (h : ∀ n ∈ DataW.weightsEach P ts ds, n ≤ 140737488351232) {j : Nat} {t : TypeId} {d : DataW H} (ht : ts[j]? = some t) (hd : ds[j]? = some d) : Wd P t d :=
  fun n hn => h n (DataW.weights_mem_each ht hd n hn)
theorem weights_mem_all {e : TypeId} : ∀ {l : List (DataW H)} {d : DataW H}, d ∈ l → ∀ n ∈ d.weights P e, n ∈ DataW.weightsAll P e l := by
  intro l
  induction l with
  | nil => intro d h; cases h
  | cons x l ih =>
    intro d h n hn
    simp only [DataW.weightsAll, List.mem_append]
    rcases List.mem_cons.1 h with rfl | h
    · exact .inl hn
    · exact .inr (ih h n hn)
theorem wd_slice {t e : TypeId} {elems spare : List (DataW H)} (hu : P.underlying t = some (.slice e)) (h : Wd P t (.slice elems spare)) :
    (elems.length + spare.length) * P.bytesOf e ≤ 140737488351232 ∧ (∀ d ∈ elems, Wd P e d) := by
  refine ⟨h _ (by simp [DataW.weights, hu]), fun d hd n hn => h n ?_⟩
  simp only [DataW.weights, hu, List.mem_cons, List.mem_append]
  exact .inr (.inl (weights_mem_all hd n hn))
theorem wd_struct {t : TypeId} {fs : Array Field} {parts : List (DataW H)} (hu : P.underlying t = some (.struct fs)) (h : Wd P t (.agg parts)) {j : Nat} {f : Field} {d : DataW H} (hf : fs[j]? = some f) (hd : parts[j]? = some d) : Wd P f.type d := by
  refine wd_each (ts := fs.toList.map (·.type)) (ds := parts) (fun n hn => h n ?_) (j := j) (by simp [hf]) hd
  simp only [DataW.weights, hu]
  exact hn

/-- What is known of a slice that came in: its cells, its bounds, where it lies. -/
def Came (w : World) (size bytes : Nat) (A : Option Addr) (n c : Nat) (xs : List Value) : Prop :=
  Rd w size A n xs ∧ n ≤ c ∧ c ≤ 9223372036854775807 ∧ c * bytes ≤ 140737488351232 ∧ (0 < n → ∀ k, fp A k → k < w.heap.size)

/-- A slice of whatever elements. -/
theorem open_any {t e : TypeId} {fuel k : Nat} {cs : List Value} {x : DataW H × List MemPlace} (ht : P.underlying t = some (.slice e)) (hk : P.cellsOf e = k) (hk0 : 0 < k)
    (h : DataW.trod enc P w 0 (fun _ => true) held fuel t cs = some x) (hw : Wd P t x.1) :
    ∃ (A : Option Addr) (n c : Nat) (css : Nat → List Value) (D : Nat → DataW H), cs = [.slice A n c] ∧ Came w k (P.bytesOf e) A n c ((List.range n).flatMap css) ∧
      ∀ i, i < n → (css i).length = k ∧ Wd P e (D i) ∧ ∃ m pl, DataW.trod enc P w 0 (fun _ => true) held m e (css i) = some (D i, pl) := by
  rcases open_slice ht h with ⟨rfl, rfl⟩ | ⟨a, len, cap, m, n, D, Pl, rfl, hb, hl, hm, hmm, rfl, hi⟩
  · exact ⟨none, 0, 0, fun _ => [], fun _ => .nil, rfl, ⟨Rd.none_, Nat.le_refl _, by omega, by omega, fun h => absurd h (by omega)⟩, fun i hi => absurd hi (by omega)⟩
  · simp only [if_true] at hmm
    subst hmm
    have hw2 := wd_slice ht hw
    simp only [List.length_map, List.length_range] at hw2
    have hch : ∀ i, i < m → ∃ cs', w.cells? 0 (a.add (i * P.cellsOf e)) (P.cellsOf e) = some cs' ∧ DataW.trod enc P w 0 (fun _ => true) held n e cs' = some (D i, Pl i) := hi
    obtain ⟨cl, hcl, hcp⟩ := list_choice _ m hch
    have hget : ∀ i, i < m → ∃ cs', cl[i]? = some cs' := fun i hi => ⟨_, List.getElem?_eq_getElem (by omega)⟩
    have hcell : ∀ i, i < m → ∀ cs', cl[i]? = some cs' → cs'.length = k ∧ ∀ j u, cs'[j]? = some u → w.cell? (a.add (i * k + j)) = some u := by
      intro i hi cs' hc
      obtain ⟨h1, _⟩ := hcp i cs' hc
      obtain ⟨_, hlen, hat⟩ := World.cells?_some h1
      rw [hk] at hlen hat
      refine ⟨hlen, fun j u hu => ?_⟩
      have hj : j < k := by
        rcases Nat.lt_or_ge j cs'.length with h2 | h2
        · omega
        · rw [List.getElem?_eq_none h2] at hu; cases hu
      rw [← add_of_add, hat j hj, hu]
    refine ⟨some a, len, m, fun i => (cl[i]?).getD [], D, rfl, ⟨⟨?_, fun _ => ⟨a, rfl, ?_⟩⟩, hl, by simpa [maxLen] using hm, ?_, ?_⟩, ?_⟩
    · have : ∀ q, q ≤ m → ((List.range q).flatMap fun i => (cl[i]?).getD []).length = q * k := by
        intro q
        induction q with
        | zero => intro _; simp
        | succ q ih =>
          intro hq
          obtain ⟨cs', hc⟩ := hget q (by omega)
          rw [List.range_succ, List.flatMap_append, List.length_append, ih (by omega), List.flatMap_singleton, hc, Option.getD_some, (hcell q (by omega) cs' hc).1, Nat.succ_mul]
      exact this len hl
    · have hlq : ∀ q, q ≤ m → ((List.range q).flatMap fun i => (cl[i]?).getD []).length = q * k := by
        intro q
        induction q with
        | zero => intro _; simp
        | succ q ih =>
          intro hq
          obtain ⟨cs', hc⟩ := hget q (by omega)
          rw [List.range_succ, List.flatMap_append, List.length_append, ih (by omega), List.flatMap_singleton, hc, Option.getD_some, (hcell q (by omega) cs' hc).1, Nat.succ_mul]
      have : ∀ q, q ≤ m → ∀ j u, ((List.range q).flatMap fun i => (cl[i]?).getD [])[j]? = some u → w.cell? (a.add j) = some u := by
        intro q
        induction q with
        | zero => intro _ j u hu; simp at hu
        | succ q ih =>
          intro hq j u hu
          obtain ⟨cs', hc⟩ := hget q (by omega)
          have hlen := hlq q (by omega)
          rw [List.range_succ, List.flatMap_append, List.flatMap_singleton, hc, Option.getD_some] at hu
          rcases Nat.lt_or_ge j (q * k) with hj | hj
          · rw [List.getElem?_append_left (by omega)] at hu
            exact ih (by omega) j u hu
          · rw [List.getElem?_append_right (by omega), hlen] at hu
            have := (hcell q (by omega) cs' hc).2 _ u hu
            rwa [show q * k + (j - q * k) = j by omega] at this
      exact this len hl
    · have := hw2.1
      rwa [show len + (m - len) = m by omega] at this
    · rintro h0 b ⟨a', ha', rfl⟩
      cases ha'
      obtain ⟨cs', hc⟩ := hget 0 (by omega)
      obtain ⟨h1, h2⟩ := hcell 0 (by omega) cs' hc
      obtain ⟨u, hu⟩ : ∃ u, cs'[0]? = some u := ⟨_, List.getElem?_eq_getElem (by omega)⟩
      have := h2 0 u hu
      rw [Nat.zero_mul, Nat.zero_add, add_zero_] at this
      exact World.block_lt_of_cell? w _ this
    · intro i hi
      obtain ⟨cs', hc⟩ := hget i (by omega)
      simp only [hc, Option.getD_some]
      refine ⟨(hcell i (by omega) cs' hc).1, ?_, n, Pl i, (hcp i cs' hc).2⟩
      apply hw2.2
      simp only [List.mem_map, List.mem_range]
      exact ⟨i, hi, rfl⟩

/-- A slice of integers. -/
theorem open_nums {t e : TypeId} {kk : IntKind} {fuel : Nat} {cs : List Value} {x : DataW H × List MemPlace} (ht : P.underlying t = some (.slice e)) (he : P.underlying e = some (.int kk)) (hk : P.cellsOf e = 1)
    (h : DataW.trod enc P w 0 (fun _ => true) held fuel t cs = some x) (hw : Wd P t x.1) :
    ∃ (A : Option Addr) (n c : Nat) (zs : List Int), cs = [.slice A n c] ∧ Came w 1 (P.bytesOf e) A n c (zs.map (.int kk ·)) ∧ ∀ z ∈ zs, (Lit.int kk z).wf = true := by
  obtain ⟨A, n, c, css, D, rfl, hc, hi⟩ := open_any ht hk (by omega) h hw
  have hch : ∀ i, i < n → ∃ z : Int, css i = [.int kk z] ∧ (Lit.int kk z).wf = true := by
    intro i hin
    obtain ⟨_, _, m, pl, htr⟩ := hi i hin
    obtain ⟨z, hz, _, hwf⟩ := DataW.trod_int he htr
    exact ⟨z, hz, hwf⟩
  obtain ⟨zs, hl, hz⟩ := list_choice _ n hch
  refine ⟨A, n, c, zs, rfl, ?_, ?_⟩
  · have e1 : (List.range n).flatMap css = zs.map (.int kk ·) := by
      rw [← hl, flat_range (fun z => [Value.int kk z]) css zs fun i e hie => (hz i e hie).1]
      clear hz hl
      induction zs with
      | nil => rfl
      | cons z zs ih => simp [List.flatMap_cons, ih]
    rwa [e1] at hc
  · intro z hm
    obtain ⟨i, hi1, hi2⟩ := List.getElem_of_mem hm
    exact (hz i z (by rw [List.getElem?_eq_getElem hi1, hi2])).2

/-- Bytes. -/
theorem open_bytes {t e : TypeId} {fuel : Nat} {cs : List Value} {x : DataW H × List MemPlace} (ht : P.underlying t = some (.slice e)) (he : P.underlying e = some (.int .u8)) (hk : P.cellsOf e = 1)
    (h : DataW.trod enc P w 0 (fun _ => true) held fuel t cs = some x) (hw : Wd P t x.1) :
    ∃ (A : Option Addr) (n c : Nat) (l : List UInt8), cs = [.slice A n c] ∧ Came w 1 (P.bytesOf e) A n c (bvs l) := by
  obtain ⟨A, n, c, zs, rfl, hc, hz⟩ := open_nums ht he hk h hw
  refine ⟨A, n, c, zs.map fun z => UInt8.ofNat z.toNat, rfl, ?_⟩
  have e1 : bvs (zs.map fun z => UInt8.ofNat z.toNat) = zs.map (.int .u8 ·) := by
    simp only [bvs, List.map_map]
    apply List.map_congr_left
    intro z hm
    have hb : 0 ≤ z ∧ z ≤ 255 := by simpa [Lit.wf, IntKind.min, IntKind.max, IntKind.signed, IntKind.bits] using hz z hm
    have : ((UInt8.ofNat z.toNat).toNat : Int) = z := by
      rw [UInt8.toNat_ofNat']
      omega
    simp only [Function.comp, bv, this]
  rwa [e1]

/-- A struct of one-cell fields. -/
theorem open_fields {t : TypeId} {fs : Array Field} {fuel : Nat} {cs : List Value} {x : DataW H × List MemPlace} (he : P.underlying t = some (.struct fs)) (hone : oneCellFields P fs = true) (hC : P.cellsOf t = fs.size)
    (h : DataW.trod enc P w 0 (fun _ => true) held fuel t cs = some x) (hw : Wd P t x.1) :
    cs.length = fs.size ∧ ∀ (j : Nat) (f : Field), fs[j]? = some f → ∃ (v : Value) (m : Nat) (y : DataW H × List MemPlace), cs[j]? = some v ∧ DataW.trod enc P w 0 (fun _ => true) held m f.type [v] = some y ∧ Wd P f.type y.1 := by
  obtain ⟨ys, n', _, rfl, hlen, hyl, hf⟩ := DataW.trod_struct he h
  refine ⟨by rw [hlen, hC], fun j f hj => ?_⟩
  obtain ⟨ho, hk⟩ := hone_of hone j f hj
  have hjl : j < fs.size := (Array.getElem?_eq_some_iff.1 hj).1
  have hv : cs[j]? = some (cs[j]'(by omega)) := List.getElem?_eq_getElem (by omega)
  have h1 := hf j f hj
  rw [ho, hk] at h1
  have hone' : (cs.drop j).take 1 = [cs[j]'(by omega)] := by
    rw [List.drop_eq_getElem_cons (by omega)]
    rfl
  rw [hone'] at h1
  have hys : ys[j]? = some (ys[j]'(by omega)) := List.getElem?_eq_getElem (by omega)
  refine ⟨_, n', _, hv, h1.trans hys, wd_struct he hw hj ?_⟩
  rw [List.getElem?_map, hys]
  rfl
end
end Go.Proofs.Ytaohgefpnndjcaa
/-
  How lists of accounts and of legs read as arguments.
-/
namespace Go.Proofs.Ytaohgefpnndjcaa
set_option linter.unusedVariables false
open Go.ChangeShapes Go.WideShapes Go.ChangeAt Go.RowKit Go.Deep
/-- what an account of an argument is -/
def AcOk (a : Ac) : Prop := (txt a.n).size ≤ maxLen ∧ I64 a.h ∧ I64 a.s ∧ I64 a.l
theorem i64_wf {x : Int} (h : (Lit.int .i64 x).wf = true) : I64 x := by
  unfold I64
  simpa [Lit.wf, IntKind.min, IntKind.max, IntKind.signed, IntKind.bits] using h
set_option maxRecDepth 100000 in
theorem open_accts {H : Type} {enc : TypeId × Value → H} {w : World} {held : Bool} {fuel : Nat} {cs : List Value} {x : DataW H × List MemPlace}
    (h : DataW.trod enc Try.prog w 0 (fun _ => true) held fuel 22 cs = some x) (hw : Wd Try.prog 22 x.1) :
    ∃ (A : Option Addr) (n c : Nat) (os : List Ac), cs = [.slice A n c] ∧ RdA w A n os ∧ n ≤ c ∧ (∀ o ∈ os, AcOk o) := by
  obtain ⟨A, n, c, css, D, rfl, hc, hi⟩ := open_any Try.underlying22 (by kernel_rfl : Try.prog.cellsOf 46 = 4) (by omega) h hw
  have hch : ∀ i, i < n → ∃ o : Ac, css i = [.string (txt o.n), .int .i64 o.h, .int .i64 o.s, .int .i64 o.l] ∧ AcOk o := by
    intro i hin
    obtain ⟨hlen, hwd, m, pl, htr⟩ := hi i hin
    obtain ⟨h3, hf⟩ := open_fields Try.underlying46 (by kernel_rfl) (by kernel_rfl) htr hwd
    obtain ⟨v0, m0, y0, c0, t0, _⟩ := hf 0 _ rfl
    obtain ⟨v1, m1, y1, c1, t1, _⟩ := hf 1 _ rfl
    obtain ⟨v2, m2, y2, c2, t2, _⟩ := hf 2 _ rfl
    obtain ⟨v3, m3, y3, c3, t3, _⟩ := hf 3 _ rfl
    obtain ⟨s, e0, _, w0⟩ := DataW.trod_string Try.underlying9 t0
    obtain ⟨x1, e1, _, w1⟩ := DataW.trod_int Try.underlying2 t1
    obtain ⟨x2, e2, _, w2⟩ := DataW.trod_int Try.underlying2 t2
    obtain ⟨x3, e3, _, w3⟩ := DataW.trod_int Try.underlying2 t3
    simp only [List.cons.injEq, and_true] at e0 e1 e2 e3
    subst e0 e1 e2 e3
    refine ⟨⟨s.data.toList, x1, x2, x3⟩, ?_, w0, i64_wf w1, i64_wf w2, i64_wf w3⟩
    generalize css i = l at *
    match l, hlen, c0, c1, c2, c3 with
    | [a, b, c, d], _, c0, c1, c2, c3 =>
      simp at c0 c1 c2 c3
      subst c0 c1 c2 c3; rfl
  obtain ⟨os, hl, hz⟩ := list_choice _ n hch
  have e1 : (List.range n).flatMap css = acs os := by
    unfold acs
    rw [← hl, flat_range (fun a : Ac => [Value.string (txt a.n), .int .i64 a.h, .int .i64 a.s, .int .i64 a.l]) css os fun i e hie => (hz i e hie).1]
  rw [e1] at hc
  refine ⟨A, n, c, os, rfl, hc.1, hc.2.1, fun o ho => ?_⟩
  obtain ⟨i, hi1, hi2⟩ := List.getElem_of_mem ho
  exact (hz i o (by rw [List.getElem?_eq_getElem hi1, hi2])).2
set_option maxRecDepth 100000 in
theorem open_legs {H : Type} {enc : TypeId × Value → H} {w : World} {held : Bool} {fuel : Nat} {cs : List Value} {x : DataW H × List MemPlace}
    (h : DataW.trod enc Try.prog w 0 (fun _ => true) held fuel 23 cs = some x) (hw : Wd Try.prog 23 x.1) :
    ∃ (A : Option Addr) (n c : Nat) (os : List Lg), cs = [.slice A n c] ∧ RdL w A n os ∧ n ≤ c ∧ (∀ o ∈ os, LgOk o) := by
  obtain ⟨A, n, c, css, D, rfl, hc, hi⟩ := open_any Try.underlying23 (by kernel_rfl : Try.prog.cellsOf 44 = 2) (by omega) h hw
  have hch : ∀ i, i < n → ∃ o : Lg, css i = [.string (txt o.n), .int .i64 o.x] ∧ LgOk o := by
    intro i hin
    obtain ⟨hlen, hwd, m, pl, htr⟩ := hi i hin
    obtain ⟨h3, hf⟩ := open_fields Try.underlying44 (by kernel_rfl) (by kernel_rfl) htr hwd
    obtain ⟨v0, m0, y0, c0, t0, _⟩ := hf 0 _ rfl
    obtain ⟨v1, m1, y1, c1, t1, _⟩ := hf 1 _ rfl
    obtain ⟨s, e0, _, w0⟩ := DataW.trod_string Try.underlying9 t0
    obtain ⟨x1, e1, _, w1⟩ := DataW.trod_int Try.underlying2 t1
    simp only [List.cons.injEq, and_true] at e0 e1
    subst e0 e1
    refine ⟨⟨s.data.toList, x1⟩, ?_, w0, i64_wf w1⟩
    generalize css i = l at *
    match l, hlen, c0, c1 with
    | [a, b], _, c0, c1 =>
      simp at c0 c1
      subst c0 c1; rfl
  obtain ⟨os, hl, hz⟩ := list_choice _ n hch
  have e1 : (List.range n).flatMap css = lgs os := by
    unfold lgs
    rw [← hl, flat_range (fun l : Lg => [Value.string (txt l.n), .int .i64 l.x]) css os fun i e hie => (hz i e hie).1]
  rw [e1] at hc
  refine ⟨A, n, c, os, rfl, hc.1, hc.2.1, fun o ho => ?_⟩
  obtain ⟨i, hi1, hi2⟩ := List.getElem_of_mem ho
  exact (hz i o (by rw [List.getElem?_eq_getElem hi1, hi2])).2
end Go.Proofs.Ytaohgefpnndjcaa
/-
  The contracts of voucher's all, Check, Make; of the law's few.
-/
namespace Go.Proofs.Ytaohgefpnndjcaa
set_option linter.unusedVariables false
open Go.RowKit
theorem rdl_lt {w : World} {A : Option Addr} {n : Nat} {ls : List Lg} (h : RdL w A n ls) (hn : 0 < n) : ∀ k, fp A k → k < w.heap.size := by
  obtain ⟨b, o, l, rfl, _, _, y1, _⟩ := rdl_get h hn
  rintro k ⟨a, ha, rfl⟩
  injection ha with ha
  subst ha
  exact World.block_lt_of_cell? w _ y1
theorem RdL.mod' {F : Nat → Prop} {w w' : World} {A : Option Addr} {n : Nat} {ls : List Lg} (h : RdL w A n ls) (hm : Mod F w w') (hF : 0 < n → ∀ k, fp A k → ¬ F k) : RdL w' A n ls := Rd.mod' h hm hF
set_option maxRecDepth 100000 in
set_option maxHeartbeats 2000000 in
theorem alls_ok (w : World) (p b : Nat) (C : List Ac) (A : Option Addr) (n c : Nat) (ls : List Lg) (hc : ChAt w p b C) (ho : OkC C) (h : RdL w A n ls) (hn : n ≤ 1000) (hz : ∀ l ∈ ls, LgOk l) (hA : 0 < n → ∀ k, fp A k → ¬ k = b) :
    Calls Try.prog 35 #[.pointer (some ⟨p, 0, none⟩), .slice A n c] w (ChPost w p b (allR C ls)) := by
  have hl := h.len
  replace h := Lib.hid h
  replace hz := Lib.hid hz
  replace hc := Lib.hid hc
  replace ho := Lib.hid ho
  replace hA := Lib.hid hA
  go_enter Try.func35, Try.ntmps35
  go_wp2_with fail
  go_loopw [10] (fun x wr => ∃ j : Nat, x = .int .i64 j ∧ j ≤ n ∧ ∃ D, ChAt wr p b D ∧ OkC D ∧ allR C ls = allR D (ls.drop j) ∧ Mod (· = b) w wr) (fun x _ => n - (intOf x).toNat)
  case atStart => exact ⟨0, rfl, by omega, C, hc.out, ho.out, rfl, Mod.refl _ _⟩
  case round =>
    obtain ⟨j, rfl, hj, D, hD, oD, hall, hm⟩ := hrel
    by_cases hlt : j < n
    · obtain ⟨g, o, l, rfl, hmem, hjl, y1, y2⟩ := rdl_get (h.out.mod' hm hA.out) hlt
      have hlok := hz.out l hmem
      have hgl := World.block_lt_of_cell? wr _ y1
      have hdr : ls.drop j = l :: ls.drop (j + 1) := by
        have hjlt : j < ls.length := by omega
        rw [List.getElem?_eq_getElem hjlt] at hjl
        injection hjl with hjl
        rw [List.drop_eq_getElem_cons hjlt, hjl]
      rw [hdr, show allR D (l :: ls.drop (j + 1)) = (if (postR D l).2 ≠ 0 then postR D l else allR (postR D l).1 (ls.drop (j + 1))) from rfl] at hall
      have cp := Lib.hid (fun W (h : ChAt W p b D) => post_ok W p b D l h hlok oD)
      have oD' := post_okc oD l
      generalize postR D l = r at *
      obtain ⟨D', er⟩ := r
      dsimp only at oD' hall
      by_cases her : er = 0
      · subst her
        rw [if_neg (by simp)] at hall
        replace hD := Lib.hid hD
        replace oD := Lib.hid oD
        replace hm := Lib.hid hm
        replace hmem := Lib.hid hmem
        replace hjl := Lib.hid hjl
        replace hlok := Lib.hid hlok
        replace hdr := Lib.hid hdr
        replace oD' := Lib.hid oD'
        replace hall := Lib.hid hall
        go_wp2_with fail
        refine (cp.out _ (hD.out.alloc _)).mono ?_
        rintro e w1 ⟨rfl, hc1, hm1⟩
        dsimp only
        have hmm := Lib.hid (((hm.out.alloc (.cells #[.string (txt l.n), .int .i64 l.x] 44))).trans hm1)
        replace hc1 := Lib.hid hc1
        clear hm1
        go_wp2_with fail
        go_roundw
        case rel => exact ⟨j + 1, by go_num, by omega, D', hc1.out, oD'.out, hall.out, hmm.out⟩
        case measure => simp [intOf]; omega
      · rw [if_pos her] at hall
        have e1 : (er == 0) = false := by simpa using her
        replace hD := Lib.hid hD
        replace oD := Lib.hid oD
        replace hm := Lib.hid hm
        replace hmem := Lib.hid hmem
        replace hjl := Lib.hid hjl
        replace hlok := Lib.hid hlok
        replace hdr := Lib.hid hdr
        replace oD' := Lib.hid oD'
        replace hall := Lib.hid hall
        replace her := Lib.hid her
        go_wp2_with fail
        refine (cp.out _ (hD.out.alloc _)).mono ?_
        rintro e w1 ⟨rfl, hc1, hm1⟩
        dsimp only
        have hmm := Lib.hid (((hm.out.alloc (.cells #[.string (txt l.n), .int .i64 l.x] 44))).trans hm1)
        replace hc1 := Lib.hid hc1
        clear hm1
        go_wp2_with fail
        go_ret
        rw [hall.out]
        exact ⟨rfl, hc1.out, hmm.out⟩
    · have hd0 : ls.drop j = [] := List.drop_eq_nil_of_le (by omega)
      rw [hd0] at hall
      replace hD := Lib.hid hD
      replace oD := Lib.hid oD
      replace hm := Lib.hid hm
      replace hall := Lib.hid hall
      replace hd0 := Lib.hid hd0
      go_wp2_with fail
      go_ret
      rw [hall.out]
      exact ⟨rfl, hD.out, hm.out⟩
set_option maxRecDepth 100000 in
theorem check_nil (w : World) (A : Option Addr) (n c : Nat) : Calls Try.prog 12 #[.pointer none, .slice A n c] w fun e w' => e = .returned (.int .i64 1) ∧ w = w' := by
  go_enter Try.func12, Try.ntmps12
  go_wp2_with fail
  go_ret
  exact ⟨rfl, rfl⟩
set_option maxRecDepth 100000 in
set_option maxHeartbeats 2000000 in
theorem check_ok (w : World) (p b : Nat) (C : List Ac) (A : Option Addr) (n c : Nat) (ls : List Lg) (hc : ChAt w p b C) (ho : OkC C) (h : RdL w A n ls) (hn : n ≤ 1000) (hz : ∀ l ∈ ls, LgOk l) :
    Calls Try.prog 12 #[.pointer (some ⟨p, 0, none⟩), .slice A n c] w fun e w' => e = .returned (.int .i64 (checkR C ls)) ∧ Mod none_ w w' := by
  have c0 := Lib.hid (fun W (h : RdL W A n ls) => right_ok W A n c ls h hn hz)
  have c1 := Lib.hid (fun W (h : RdL W A n ls) => weigh_ok W A n c ls h hn hz)
  have c2 := Lib.hid (fun W (h : ChAt W p b C) => copy_ok W p b C h)
  have c3 := Lib.hid (fun W p' b' (hc : ChAt W p' b' C) (h : RdL W A n ls) (hA : 0 < n → ∀ k, fp A k → ¬ k = b') => alls_ok W p' b' C A n c ls hc ho h hn hz hA)
  unfold checkR
  cases hr : rightB ls with
  | false =>
    rw [hr] at c0
    rw [if_pos rfl]
    replace h := Lib.hid h
    replace hz := Lib.hid hz
    replace hc := Lib.hid hc
    replace ho := Lib.hid ho
    replace hr := Lib.hid hr
    go_enter Try.func12, Try.ntmps12
    go_wp2_with fail
    refine (c0.out _ h.out).mono ?_
    rintro e w1 ⟨rfl, hm1⟩
    dsimp only
    replace hm1 := Lib.hid hm1
    go_wp2_with fail
    go_ret
    exact ⟨rfl, hm1.out⟩
  | true =>
    rw [hr] at c0
    rw [if_neg (by simp)]
    cases hw : weighB ls with
    | false =>
      rw [hw] at c1
      rw [if_pos rfl]
      replace h := Lib.hid h
      replace hz := Lib.hid hz
      replace hc := Lib.hid hc
      replace ho := Lib.hid ho
      replace hr := Lib.hid hr
      replace hw := Lib.hid hw
      go_enter Try.func12, Try.ntmps12
      go_wp2_with fail
      refine (c0.out _ h.out).mono ?_
      rintro e w1 ⟨rfl, hm1⟩
      dsimp only
      replace hm1 := Lib.hid hm1
      go_wp2_with fail
      refine (c1.out _ (h.out.mod0 hm1.out)).mono ?_
      rintro e w2 ⟨rfl, hm2⟩
      dsimp only
      have hmm := Lib.hid (hm1.out.trans hm2)
      clear hm1 hm2
      go_wp2_with fail
      go_ret
      exact ⟨rfl, hmm.out⟩
    | true =>
      rw [hw] at c1
      rw [if_neg (by simp)]
      generalize allR C ls = r at *
      replace h := Lib.hid h
      replace hz := Lib.hid hz
      replace hc := Lib.hid hc
      replace ho := Lib.hid ho
      replace hr := Lib.hid hr
      replace hw := Lib.hid hw
      go_enter Try.func12, Try.ntmps12
      go_wp2_with fail
      refine (c0.out _ h.out).mono ?_
      rintro e w1 ⟨rfl, hm1⟩
      dsimp only
      replace hm1 := Lib.hid hm1
      go_wp2_with fail
      refine (c1.out _ (h.out.mod0 hm1.out)).mono ?_
      rintro e w2 ⟨rfl, hm2⟩
      dsimp only
      have hmm := Lib.hid (hm1.out.trans hm2)
      clear hm1 hm2
      go_wp2_with fail
      refine (c2.out _ (hc.out.mod0 hmm.out)).mono ?_
      rintro e w3 ⟨p', b', rfl, hc3, hm3, hp3, hb3⟩
      dsimp only
      have hmm3 := Lib.hid (hmm.out.trans hm3)
      have hs2 := hmm.out.size
      replace hc3 := Lib.hid hc3
      replace hm3 := Lib.hid hm3
      replace hp3 := Lib.hid hp3
      replace hb3 := Lib.hid hb3
      go_wp2_with fail
      refine (c3.out _ p' b' hc3.out (h.out.mod0 hmm3.out) (fun h0 k hk he => by have := rdl_lt h.out h0 k hk; have := hb3.out; omega)).mono ?_
      rintro e w4 ⟨rfl, hc4, hm4⟩
      dsimp only
      have hmm4 := Lib.hid (hmm3.out.then hm4 (fun i hi he => by have h1 : i = b' := he; have := hb3.out; omega))
      clear hc4 hm4
      go_wp2_with fail
      go_ret
      exact ⟨rfl, hmm4.out⟩
set_option maxRecDepth 100000 in
set_option maxHeartbeats 2000000 in
theorem make_ok (w : World) (p b : Nat) (C : List Ac) (A : Option Addr) (n c : Nat) (ls : List Lg) (hc : ChAt w p b C) (ho : OkC C) (h : RdL w A n ls) (hn : n ≤ 1000) (hz : ∀ l ∈ ls, LgOk l) (hA : 0 < n → ∀ k, fp A k → ¬ k = b) :
    Calls Try.prog 16 #[.pointer (some ⟨p, 0, none⟩), .slice A n c] w (ChPost w p b (makeR C ls)) := by
  have c0 := Lib.hid (check_ok w p b C A n c ls hc ho h hn hz)
  have c3 := Lib.hid (fun W (hc : ChAt W p b C) (h : RdL W A n ls) => alls_ok W p b C A n c ls hc ho h hn hz hA)
  unfold makeR
  generalize checkR C ls = er at *
  by_cases her : er = 0
  · subst her
    rw [if_neg (by simp)]
    generalize allR C ls = r at *
    replace h := Lib.hid h
    replace hz := Lib.hid hz
    replace hc := Lib.hid hc
    replace ho := Lib.hid ho
    go_enter Try.func16, Try.ntmps16
    go_wp2_with fail
    refine c0.out.mono ?_
    rintro e w1 ⟨rfl, hm1⟩
    dsimp only
    replace hm1 := Lib.hid hm1
    go_wp2_with fail
    refine (c3.out _ (hc.out.mod0 hm1.out) (h.out.mod0 hm1.out)).mono ?_
    rintro e w2 ⟨rfl, hc2, hm2⟩
    dsimp only
    replace hc2 := Lib.hid hc2
    replace hm2 := Lib.hid hm2
    go_wp2_with fail
    go_ret
    exact ⟨rfl, hc2.out, (hm1.out.any _).trans hm2.out⟩
  · rw [if_pos her]
    have e1 : (er == 0) = false := by simpa using her
    replace h := Lib.hid h
    replace hz := Lib.hid hz
    replace hc := Lib.hid hc
    replace ho := Lib.hid ho
    replace her := Lib.hid her
    go_enter Try.func16, Try.ntmps16
    go_wp2_with fail
    refine c0.out.mono ?_
    rintro e w1 ⟨rfl, hm1⟩
    dsimp only
    replace hm1 := Lib.hid hm1
    go_wp2_with fail
    go_ret
    exact ⟨rfl, hc.out.mod0 hm1.out, hm1.out.any _⟩
set_option maxRecDepth 100000 in
theorem few_ok (w : World) (A : Option Addr) (n c : Nat) (hnc : n ≤ c) : Calls Try.prog 11 #[.slice A n c] w fun e w' => e = .returned (.slice A (min n 8) c) ∧ w = w' := by
  have e1 : (min (n : Int) 8).toNat = min n 8 := by omega
  go_enter Try.func11, Try.ntmps11
  go_wp2_with fail
  go_ret
  exact ⟨by rw [← e1]; rfl, rfl⟩
end Go.Proofs.Ytaohgefpnndjcaa
