/-
  The contracts of voucher's right, weigh, post, all, Check, Make.
-/
import Derived.Test.YtaohgefpnndjcaaVoP
import Derived.Test.YtaohgefpnndjcaaChTot
namespace Go.Proofs.Ytaohgefpnndjcaa
set_option linter.unusedVariables false
open Go.RowKit
def lgs (ls : List Lg) : List Value := ls.flatMap fun l => [.string (txt l.n), .int .i64 l.x]
theorem lgs_length (ls : List Lg) : (lgs ls).length = ls.length * 2 := flat_length _ 2 (fun _ => rfl) ls
theorem lgs_append (C D : List Lg) : lgs (C ++ D) = lgs C ++ lgs D := by unfold lgs; rw [List.flatMap_append]
def RdL (w : World) (A : Option Addr) (n : Nat) (ls : List Lg) : Prop := Rd w 2 A n (lgs ls)
theorem RdL.len {w : World} {A : Option Addr} {n : Nat} {ls : List Lg} (h : RdL w A n ls) : ls.length = n := by have := h.1; rw [lgs_length] at this; omega
theorem RdL.mod0 {w w' : World} {A : Option Addr} {n : Nat} {ls : List Lg} (h : RdL w A n ls) (hm : Mod none_ w w') : RdL w' A n ls := Rd.mod0 h hm
theorem rdl_get {w : World} {A : Option Addr} {n : Nat} {ls : List Lg} (h : RdL w A n ls) {j : Nat} (hj : j < n) : ∃ b o l, A = some ⟨b, o, none⟩ ∧ l ∈ ls ∧ ls[j]? = some l ∧
    w.cell? ⟨b, o + j*2, none⟩ = some (.string (txt l.n)) ∧ w.cell? ⟨b, o + j*2 + 1, none⟩ = some (.int .i64 l.x) := by
  have hl := h.len
  obtain ⟨b, o, e, hc⟩ := Rd.form h (show 0 < n by omega) (by omega)
  have hjl : j < ls.length := by omega
  have hg := flat_get (fun l : Lg => [Value.string (txt l.n), .int .i64 l.x]) 2 (fun _ => rfl) ls j ls[j] (List.getElem?_eq_getElem hjl)
  refine ⟨b, o, ls[j], e, List.getElem_mem hjl, List.getElem?_eq_getElem hjl, ?_, ?_⟩
  · exact hc (j*2) _ (hg 0 (by omega))
  · rw [Nat.add_assoc]; exact hc (j*2+1) _ (hg 1 (by omega))
def RgRel (w : World) (b : Nat) (ls : List Lg) (j : Nat) (wr : World) : Prop := MapAt wr 9 b (seenL (ls.take j)) ∧ (∀ l ∈ ls.take j, okLeg l = true) ∧ Mod none_ w wr
theorem right_no {ls : List Lg} {l : Lg} (h : l ∈ ls) (h0 : okLeg l = false) : rightB ls = false := by
  unfold rightB
  have : ls.all okLeg = false := by rw [List.all_eq_false]; exact ⟨l, h, by rw [h0]; simp⟩
  rw [this]; rfl
set_option maxRecDepth 100000 in
set_option maxHeartbeats 2000000 in
theorem right_ok (w : World) (A : Option Addr) (n c : Nat) (ls : List Lg) (h : RdL w A n ls) (hn : n ≤ 1000) (hz : ∀ l ∈ ls, LgOk l) :
    Calls Try.prog 33 #[.slice A n c] w fun e w' => e = .returned (.bool (rightB ls)) ∧ Mod none_ w w' := by
  have hl := h.len
  have hmk := fun W => run_makeMap (P := Try.prog) 81 W
  have cn := Lib.hid (fun W s => name_ok W s)
  replace h := Lib.hid h
  replace hz := Lib.hid hz
  go_enter Try.func33, Try.ntmps33
  go_wp2_with fail
  have hw0 : w.heap.size ≤ (w.alloc (.map #[] 0)).heap.size := by simp
  go_loopw [9] (fun x wr => ∃ j : Nat, x = .int .i64 j ∧ j ≤ n ∧ RgRel w w.heap.size ls j wr) (fun x _ => n - (intOf x).toNat)
  case atStart => exact ⟨0, rfl, by omega, MapAt.made w _, (fun l h => by cases h), (Mod.refl _ _).alloc _⟩
  case round =>
    obtain ⟨j, rfl, hj, hM, hall, hm⟩ := hrel
    by_cases hlt : j < n
    · obtain ⟨g, o, l, rfl, hmem, hjl, y1, y2⟩ := rdl_get (h.out.mod0 hm) hlt
      have hlok := hz.out l hmem
      have hgl := World.block_lt_of_cell? wr _ y1
      have htk : ls.take (j + 1) = ls.take j ++ [l] := by
        have hjlt : j < ls.length := by omega
        rw [List.getElem?_eq_getElem hjlt] at hjl
        injection hjl with hjl
        rw [List.take_succ_eq_append_getElem hjlt, hjl]
      have hno : okLeg l = false → rightB ls = false := right_no hmem
      have hyes : okLeg l = true → ∀ y ∈ ls.take (j + 1), okLeg y = true := fun h0 y hy => by
        rw [htk, List.mem_append] at hy
        rcases hy with hy | hy
        · exact hall y hy
        · simp at hy; subst hy; exact h0
      have hslen : (seenL (ls.take j)).length ≤ 1000 := by have := (seenL_len (ls.take j)).1; rw [List.length_take] at this; omega
      have hnx : seenL (ls.take (j + 1)) = putL l.n (.bool true) (seenL (ls.take j)) := by rw [htk, seenL_snoc]
      have cname := Lib.hid (fun W => cn.out W (txt l.n))
      rw [show (txt l.n).data.toList = l.n from rfl] at cname
      have hbl := hM.lt
      cases hb : nameB l.n with
      | false =>
        rw [hb] at cname
        have hr := hno (by unfold okLeg; rw [hb]; rfl)
        clear hno hyes
        replace hM := Lib.hid hM
        replace hall := Lib.hid hall
        replace hm := Lib.hid hm
        replace hmem := Lib.hid hmem
        replace hjl := Lib.hid hjl
        replace hlok := Lib.hid hlok
        replace htk := Lib.hid htk
        replace hr := Lib.hid hr
        replace hslen := Lib.hid hslen
        replace hnx := Lib.hid hnx
        replace hb := Lib.hid hb
        go_wp2_with fail
        refine (cname.out _).mono ?_
        rintro e w1 ⟨rfl, hm1⟩
        dsimp only
        have hmm := Lib.hid ((hm.out.alloc _).trans hm1)
        clear hm1
        go_wp2_with fail
        go_ret
        exact ⟨by rw [hr.out]; rfl, hmm.out⟩
      | true =>
        rw [hb] at cname
        by_cases hx0 : l.x = 0
        · have hr := hno (by unfold okLeg; rw [hb, hx0]; rfl)
          rw [hx0] at y2
          clear hno hyes
          replace hM := Lib.hid hM
          replace hall := Lib.hid hall
          replace hm := Lib.hid hm
          replace hmem := Lib.hid hmem
          replace hjl := Lib.hid hjl
          replace hlok := Lib.hid hlok
          replace htk := Lib.hid htk
          replace hr := Lib.hid hr
          replace hslen := Lib.hid hslen
          replace hnx := Lib.hid hnx
          replace hb := Lib.hid hb
          replace hx0 := Lib.hid hx0
          go_wp2_with fail
          refine (cname.out _).mono ?_
          rintro e w1 ⟨rfl, hm1⟩
          dsimp only
          have q1 : w1.cell? ⟨wr.heap.size, 1, none⟩ = some (.int .i64 0) := ((Blk.new wr 44 #[.string (txt l.n), .int .i64 0]).mod hm1 (fun h => h)).cell_ rfl
          have hmm := Lib.hid ((hm.out.alloc _).trans hm1)
          clear hm1
          go_wp2_with fail
          go_ret
          exact ⟨by rw [hr.out]; rfl, hmm.out⟩
        · have hr := hyes (by unfold okLeg; rw [hb]; simpa using hx0)
          have e1 : (l.x == 0) = false := by simpa using hx0
          have hxy : ∀ x, l.x = x → (x == 0) = false := fun x hx => by rw [← hx]; exact e1
          obtain ⟨x, hx⟩ : ∃ x, l.x = x := ⟨_, rfl⟩
          have e2 := hxy x hx
          rw [hx] at y2
          clear hno hyes hxy e1 hx0
          replace hM := Lib.hid hM
          replace hall := Lib.hid hall
          replace hm := Lib.hid hm
          replace hmem := Lib.hid hmem
          replace hjl := Lib.hid hjl
          replace hlok := Lib.hid hlok
          replace htk := Lib.hid htk
          replace hr := Lib.hid hr
          replace hslen := Lib.hid hslen
          replace hnx := Lib.hid hnx
          replace hb := Lib.hid hb
          replace hx := Lib.hid hx
          go_wp2_with fail
          refine (cname.out _).mono ?_
          rintro e w1 ⟨rfl, hm1⟩
          dsimp only
          have hB := (Blk.new wr 44 #[.string (txt l.n), .int .i64 x]).mod hm1 (fun h => h)
          have q0 : w1.cell? ⟨wr.heap.size, 0, none⟩ = some (.string (txt l.n)) := hB.cell_ rfl
          have q1 : w1.cell? ⟨wr.heap.size, 1, none⟩ = some (.int .i64 x) := hB.cell_ rfl
          have hM1 := Lib.hid ((hM.out.alloc (.cells #[.string (txt l.n), .int .i64 x] 44)).mod hm1 (fun h => h))
          have hmm := Lib.hid ((hm.out.alloc (.cells #[.string (txt l.n), .int .i64 x] 44)).trans hm1)
          clear hm1 hB
          go_wp2_with (refine map_store _ rfl (.tmp 22) (.tmp 24) (.const (.bool true)) _ rfl 9 4 Try.underlying81 Try.underlying9 w.heap.size _ rfl hM1.out (by have := hslen.out; unfold maxLen; omega) (txt l.n) hlok.out.1 rfl (.bool true) rfl ?_; intro W' hM' hm' hsz'; replace hM' := Lib.hid hM'; replace hm' := Lib.hid hm'; replace hsz' := Lib.hid hsz')
          go_roundw
          case rel =>
            refine ⟨j + 1, by go_num, by omega, ?_, hr.out, hmm.out.then hm'.out (fun i hi he => by have : i = w.heap.size := he; omega)⟩
            rw [hnx.out]; exact hM'.out
          case measure => simp [intOf]; omega
    · have hjn : j = n := by omega
      subst hjn
      have hfull : ls.take j = ls := List.take_of_length_le (by omega)
      rw [hfull] at hM hall
      have hres : rightB ls = (decide ((seenL ls).length = ls.length) && decide (2 ≤ ls.length) && decide (ls.length ≤ 6)) := by
        unfold rightB
        rw [show ls.all okLeg = true from List.all_eq_true.2 hall, Bool.true_and]
      rw [hl] at hres
      obtain ⟨k, hk⟩ : ∃ k, (seenL ls).length = k := ⟨_, rfl⟩
      rw [hk] at hres
      clear hfull
      by_cases h1 : k = j
      · by_cases h2 : 2 ≤ j
        · have d1 : ((k : Int) == (j : Int)) = true := by simp [h1]
          have d2 : decide ((2 : Int) ≤ (j : Int)) = true := decide_eq_true (by omega)
          rw [decide_eq_true h1, decide_eq_true h2] at hres
          replace hM := Lib.hid hM
          replace hall := Lib.hid hall
          replace hm := Lib.hid hm
          replace hres := Lib.hid hres
          replace hk := Lib.hid hk
          replace h1 := Lib.hid h1
          go_wp2_with (refine map_len _ rfl (.tmp 26) _ rfl 9 4 Try.underlying81 w.heap.size _ rfl hM.out ?_; rw [hk.out])
          go_ret
          exact ⟨by rw [hres.out]; simp; omega, hm.out⟩
        · have d1 : ((k : Int) == (j : Int)) = true := by simp [h1]
          have d2 : decide ((2 : Int) ≤ (j : Int)) = false := decide_eq_false (by omega)
          rw [decide_eq_true h1, decide_eq_false h2] at hres
          replace hM := Lib.hid hM
          replace hall := Lib.hid hall
          replace hm := Lib.hid hm
          replace hres := Lib.hid hres
          replace hk := Lib.hid hk
          replace h1 := Lib.hid h1
          go_wp2_with (refine map_len _ rfl (.tmp 26) _ rfl 9 4 Try.underlying81 w.heap.size _ rfl hM.out ?_; rw [hk.out])
          go_ret
          exact ⟨by rw [hres.out]; simp, hm.out⟩
      · have d1 : ((k : Int) == (j : Int)) = false := by rw [beq_eq_false_iff_ne]; omega
        have d3 : (k == j) = false := by rw [beq_eq_false_iff_ne]; exact h1
        rw [decide_eq_false h1] at hres
        replace hM := Lib.hid hM
        replace hall := Lib.hid hall
        replace hm := Lib.hid hm
        replace hres := Lib.hid hres
        replace hk := Lib.hid hk
        replace h1 := Lib.hid h1
        go_wp2_with (refine map_len _ rfl (.tmp 26) _ rfl 9 4 Try.underlying81 w.heap.size _ rfl hM.out ?_; rw [hk.out])
        go_ret
        exact ⟨by rw [hres.out]; simp, hm.out⟩
set_option maxRecDepth 100000 in
set_option maxHeartbeats 2000000 in
theorem weigh_ok (w : World) (A : Option Addr) (n c : Nat) (ls : List Lg) (h : RdL w A n ls) (hn : n ≤ 1000) (hz : ∀ l ∈ ls, LgOk l) :
    Calls Try.prog 34 #[.slice A n c] w fun e w' => e = .returned (.bool (weighB ls)) ∧ Mod none_ w w' := by
  have hl := h.len
  have hin : I64s (ls.map fun l : Lg => l.x) := by
    intro y hy
    obtain ⟨a, ha, rfl⟩ := List.mem_map.1 hy
    exact (hz a ha).2
  replace h := Lib.hid h
  replace hz := Lib.hid hz
  replace hin := Lib.hid hin
  go_enter Try.func34, Try.ntmps34
  go_wp2_with fail
  go_loopw [3, 10] (fun v x wr => ∃ j : Nat, x = .int .i64 j ∧ j ≤ n ∧ ∃ A' c', v = .slice A' j c' ∧ OwI wr A' j c' ((ls.map fun l : Lg => l.x).take j) ∧ Fresh w A' ∧ Mod none_ w wr) (fun _ x _ => n - (intOf x).toNat)
  case atStart => exact ⟨0, rfl, by omega, none, 0, rfl, Ow.nil _ _ _, (fun _ h => by cases h), Mod.refl _ _⟩
  case round =>
    obtain ⟨j, rfl, hj, A', c', rfl, how, hf, hm⟩ := hrel
    by_cases hlt : j < n
    · obtain ⟨g, o, l, rfl, hmem, hjl, y1, y2⟩ := rdl_get (h.out.mod0 hm) hlt
      have hnx : ((ls.map fun l : Lg => l.x).take j) ++ [l.x] = ((ls.map fun l : Lg => l.x).take (j+1)) := by
        have hjlt : j < ls.length := by omega
        rw [List.getElem?_eq_getElem hjlt] at hjl
        injection hjl with hjl
        rw [List.take_succ_eq_append_getElem (by simpa using hjlt), List.getElem_map, hjl]
      have hgl := World.block_lt_of_cell? wr _ y2
      obtain ⟨x, hx⟩ : ∃ x, l.x = x := ⟨_, rfl⟩
      rw [hx] at y2 hnx
      replace how := Lib.hid how
      replace hf := Lib.hid hf
      replace hm := Lib.hid hm
      replace hnx := Lib.hid hnx
      replace hmem := Lib.hid hmem
      replace hjl := Lib.hid hjl
      replace hx := Lib.hid hx
      go_wp2_with (at_builtin; go_loud (refine app64 rfl (.tmp 14) (.tmp 17) rfl rfl (Ow.mod0 how.out (((Mod.refl none_ _).alloc _).alloc _)) rfl (rdi_one' _ _ (wr.heap.size + 1) (by simp) _) (by omega) ?_; intro A2 c2 w2 ho2 hm2 hA2; replace ho2 := Lib.hid ho2; replace hm2 := Lib.hid hm2; replace hA2 := Lib.hid hA2))
      go_roundw
      case rel =>
        refine ⟨j + 1, by go_num, by omega, A2, c2, rfl, ?_, Fresh.app hf.out ((hm.out.alloc _).alloc _).size hA2.out, ((hm.out.alloc _).alloc _).app hf.out hm2.out⟩
        rw [← hnx.out]; exact ho2.out
      case measure => simp [intOf]; omega
    · have hall : ((ls.map fun l : Lg => l.x).take j) = ls.map fun l : Lg => l.x := List.take_of_length_le (by rw [List.length_map]; omega)
      rw [hall] at how
      have hjn : j ≤ 1000 := by omega
      have ct := Lib.hid (total_ok wr A' j c' (ls.map fun l : Lg => l.x) (Ow.rd how) (by omega) hin.out)
      have hres : weighB ls = (decide (isum (ls.map fun l => l.x) = 0)) := rfl
      generalize isum (ls.map fun l : Lg => l.x) = t at ct hres
      clear hall
      by_cases h0 : t = 0
      · subst h0
        rw [show sumR 0 = (0, 0) from rfl] at ct
        rw [show decide ((0:Int) = 0) = true from rfl] at hres
        replace how := Lib.hid how
        replace hf := Lib.hid hf
        replace hm := Lib.hid hm
        replace hres := Lib.hid hres
        go_wp2_with fail
        refine ct.out.mono ?_
        rintro e w3 ⟨rfl, rfl⟩
        dsimp only
        go_wp2_with fail
        go_ret
        exact ⟨by rw [hres.out]; rfl, hm.out⟩
      · rw [decide_eq_false h0] at hres
        cases hi : inI t with
        | false =>
          rw [sumR_no hi] at ct
          replace how := Lib.hid how
          replace hf := Lib.hid hf
          replace hm := Lib.hid hm
          replace hres := Lib.hid hres
          go_wp2_with fail
          refine ct.out.mono ?_
          rintro e w3 ⟨rfl, rfl⟩
          dsimp only
          go_wp2_with fail
          go_ret
          exact ⟨by rw [hres.out]; rfl, hm.out⟩
        | true =>
          rw [sumR_yes hi] at ct
          have e1 : (t == 0) = false := by simpa using h0
          replace how := Lib.hid how
          replace hf := Lib.hid hf
          replace hm := Lib.hid hm
          replace hres := Lib.hid hres
          replace h0 := Lib.hid h0
          go_wp2_with fail
          refine ct.out.mono ?_
          rintro e w3 ⟨rfl, rfl⟩
          dsimp only
          go_wp2_with fail
          go_ret
          exact ⟨by rw [hres.out]; simp, hm.out⟩
set_option maxRecDepth 100000 in
set_option maxHeartbeats 2000000 in
theorem post_ok (w : World) (p b : Nat) (C : List Ac) (l : Lg) (hc : ChAt w p b C) (hz : LgOk l) (ho : OkC C) :
    Calls Try.prog 57 #[.pointer (some ⟨p, 0, none⟩), .agg #[.string (txt l.n), .int .i64 l.x]] w (ChPost w p b (postR C l)) := by
  have c0 := Lib.hid (fun W (h : ChAt W p b C) => get_ok W p b C (txt l.n) h hz.1)
  have c1 := Lib.hid (fun W => less_act W 0 l.x (by unfold I64; omega) hz.2)
  rw [show (txt l.n).data.toList = l.n from rfl] at c0
  unfold postR
  unfold getV at c0
  cases hg : getC C l.n with
  | none =>
    rw [hg] at c0
    unfold zeroA at c0
    replace hc := Lib.hid hc
    replace hz := Lib.hid hz
    replace ho := Lib.hid ho
    replace hg := Lib.hid hg
    go_enter Try.func57, Try.ntmps57
    go_wp2_with fail
    refine (c0.out _ (hc.out.alloc _)).mono ?_
    rintro e w1 ⟨rfl, hm1⟩
    dsimp only
    have hch := Lib.hid (((hc.out.alloc (.cells #[.string (txt l.n), .int .i64 l.x] 44)).mod0 hm1).alloc (.cells #[.string ⟨#[]⟩, .int .i64 0, .int .i64 0, .int .i64 0] 46))
    have hmm := Lib.hid (((((Mod.refl none_ w).alloc (.cells #[.string (txt l.n), .int .i64 l.x] 44))).trans hm1).alloc (.cells #[.string ⟨#[]⟩, .int .i64 0, .int .i64 0, .int .i64 0] 46))
    clear hm1
    go_wp2_with fail
    go_ret
    exact ⟨rfl, hch.out, hmm.out.any _⟩
  | some a =>
    rw [hg] at c0
    dsimp only
    unfold acV at c0
    have hx2 : I64 (actR (0 - l.x)).1 := actR_i64 _
    obtain ⟨⟨r1, r2⟩, hr⟩ : ∃ r, actR (0 - l.x) = r := ⟨_, rfl⟩
    rw [hr] at hx2 c1 ⊢
    dsimp only at hx2 c1 ⊢
    have c2 := Lib.hid (fun W (h : ChAt W p b C) => give_ok W p b C (txt l.n) r1 h hz.1 ho.wf hx2 (by have := ho.2; unfold maxLen; omega))
    rw [show (txt l.n).data.toList = l.n from rfl] at c2
    by_cases h2 : r2 = 0
    · subst h2
      rw [if_neg (by simp)]
      generalize turnR C l.n r1 (giveA r1) = rr at *
      replace hc := Lib.hid hc
      replace hz := Lib.hid hz
      replace ho := Lib.hid ho
      replace hg := Lib.hid hg
      replace hx2 := Lib.hid hx2
      replace hr := Lib.hid hr
      go_enter Try.func57, Try.ntmps57
      go_wp2_with fail
      refine (c0.out _ (hc.out.alloc _)).mono ?_
      rintro e w1 ⟨rfl, hm1⟩
      dsimp only
      have hB := Lib.hid (((Blk.new w 44 #[.string (txt l.n), .int .i64 l.x]).mod hm1 (fun h => h)).alloc (.cells #[.string (txt a.n), .int .i64 a.h, .int .i64 a.s, .int .i64 a.l] 46))
      have hch := Lib.hid (((hc.out.alloc (.cells #[.string (txt l.n), .int .i64 l.x] 44)).mod0 hm1).alloc (.cells #[.string (txt a.n), .int .i64 a.h, .int .i64 a.s, .int .i64 a.l] 46))
      have hmm := Lib.hid (((((Mod.refl none_ w).alloc (.cells #[.string (txt l.n), .int .i64 l.x] 44))).trans hm1).alloc (.cells #[.string (txt a.n), .int .i64 a.h, .int .i64 a.s, .int .i64 a.l] 46))
      have q0 := hB.out.cell 0
      have q1 := hB.out.cell 1
      have hwl : w.heap.size < w1.heap.size := by have := hm1.size; simp at this; omega
      have p0 : w1.cell? ⟨w.heap.size, 0, none⟩ = some (.string (txt l.n)) := ((Blk.new w 44 #[.string (txt l.n), .int .i64 l.x]).mod hm1 (fun h => h)).cell_ rfl
      have p1 : w1.cell? ⟨w.heap.size, 1, none⟩ = some (.int .i64 l.x) := ((Blk.new w 44 #[.string (txt l.n), .int .i64 l.x]).mod hm1 (fun h => h)).cell_ rfl
      clear hm1 q0 q1
      go_wp2_with fail
      refine (c1.out _).mono ?_
      rintro e w2 ⟨rfl, rfl⟩
      dsimp only
      go_wp2_with fail
      refine (c2.out _ hch.out).mono ?_
      rintro e w3 ⟨rfl, hc3, hm3⟩
      dsimp only
      replace hc3 := Lib.hid hc3
      replace hm3 := Lib.hid hm3
      go_wp2_with fail
      go_ret
      exact ⟨rfl, hc3.out, (hmm.out.any _).trans hm3.out⟩
    · rw [if_pos (by simpa using h2)]
      have e1 : (r2 == 0) = false := by simpa using h2
      replace hc := Lib.hid hc
      replace hz := Lib.hid hz
      replace ho := Lib.hid ho
      replace hg := Lib.hid hg
      replace hx2 := Lib.hid hx2
      replace hr := Lib.hid hr
      replace h2 := Lib.hid h2
      go_enter Try.func57, Try.ntmps57
      go_wp2_with fail
      refine (c0.out _ (hc.out.alloc _)).mono ?_
      rintro e w1 ⟨rfl, hm1⟩
      dsimp only
      have hch := Lib.hid (((hc.out.alloc (.cells #[.string (txt l.n), .int .i64 l.x] 44)).mod0 hm1).alloc (.cells #[.string (txt a.n), .int .i64 a.h, .int .i64 a.s, .int .i64 a.l] 46))
      have hmm := Lib.hid (((((Mod.refl none_ w).alloc (.cells #[.string (txt l.n), .int .i64 l.x] 44))).trans hm1).alloc (.cells #[.string (txt a.n), .int .i64 a.h, .int .i64 a.s, .int .i64 a.l] 46))
      have hwl : w.heap.size < w1.heap.size := by have := hm1.size; simp at this; omega
      have p0 : w1.cell? ⟨w.heap.size, 0, none⟩ = some (.string (txt l.n)) := ((Blk.new w 44 #[.string (txt l.n), .int .i64 l.x]).mod hm1 (fun h => h)).cell_ rfl
      have p1 : w1.cell? ⟨w.heap.size, 1, none⟩ = some (.int .i64 l.x) := ((Blk.new w 44 #[.string (txt l.n), .int .i64 l.x]).mod hm1 (fun h => h)).cell_ rfl
      clear hm1
      go_wp2_with fail
      refine (c1.out _).mono ?_
      rintro e w2 ⟨rfl, rfl⟩
      dsimp only
      go_wp2_with fail
      go_ret
      exact ⟨rfl, hch.out, hmm.out.any _⟩
end Go.Proofs.Ytaohgefpnndjcaa
