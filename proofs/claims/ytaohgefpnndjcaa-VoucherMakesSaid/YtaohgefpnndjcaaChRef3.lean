/-
  The reference's Give, Aside and Total.
-/
import Derived.Test.YtaohgefpnndjcaaChRef2
import Derived.Test.YtaohgefpnndjcaaChTot
import Derived.Test.YtaohgefpnndjcaaChBackP
namespace Go.Proofs.Ytaohgefpnndjcaa
set_option linter.unusedVariables false
open Go.RowKit
theorem acs_at_h (C : List Ac) (i : Nat) (hi : i < C.length) : (acs C)[i*4 + 1]? = some (.int .i64 C[i].h) := flat_get (fun a : Ac => [Value.string (txt a.n), .int .i64 a.h, .int .i64 a.s, .int .i64 a.l]) 4 (fun _ => rfl) C i C[i] (List.getElem?_eq_getElem hi) 1 (by omega)
theorem acs_at_s (C : List Ac) (i : Nat) (hi : i < C.length) : (acs C)[i*4 + 2]? = some (.int .i64 C[i].s) := flat_get (fun a : Ac => [Value.string (txt a.n), .int .i64 a.h, .int .i64 a.s, .int .i64 a.l]) 4 (fun _ => rfl) C i C[i] (List.getElem?_eq_getElem hi) 2 (by omega)
set_option maxRecDepth 100000 in
set_option maxHeartbeats 4000000 in
theorem rgive_ok (w : World) (q B : Nat) (C : List Ac) (s : List UInt8) (x : Int) (h : RefAt w q B C) (hs : SortedC C) (ho : OkC C) (hx : I64 x) (hB : B ≤ w.heap.size) :
    Calls Try.prog 30 #[.pointer (some ⟨q, 0, none⟩), .string (txt s), .int .i64 x] w (RfPost w q B (turnR C s x (giveA x))) := by
  have hl : C.length ≤ 1000 := by have := ho.2; omega
  unfold turnR
  cases hg : getC C s with
  | none =>
    have ca := Lib.hid (fun W (h : RefAt W q B C) => rat_none W q B C s h hl hg)
    replace h := Lib.hid h
    replace hg := Lib.hid hg
    replace hs := Lib.hid hs
    replace ho := Lib.hid ho
    replace hx := Lib.hid hx
    go_enter Try.func30, Try.ntmps30
    go_wp2_with fail
    refine (ca.out _ h.out).mono ?_
    rintro e w1 ⟨rfl, rfl⟩
    dsimp only
    go_wp2_with fail
    go_ret
    exact ⟨rfl, h.out, Mod.refl _ _⟩
  | some a =>
    obtain ⟨i, hst, hget⟩ := stands_of hg
    have hw := ho.wf a (getC_mem hg)
    have hnm := getC_name hg
    have ca := Lib.hid (fun W (h : RefAt W q B C) => rat_some W q B C s i h hl hst)
    have cl := Lib.hid (fun W => (rless_ok W a.h x hw.1 hx).mono (fun e w' hp => SPost.act hp))
    have cf := Lib.hid (fun W => rfree_ok W a x hw hx)
    dsimp only
    have key : ∀ (b : Ac), b.n = a.n → setC C b = C.set i b := fun b hb => by
      obtain ⟨hi, hn, _⟩ := hst
      exact set_at hs hi (by rw [hn, hb, hnm])
    have hCi : ∀ hi : i < C.length, C[i] = a := fun hi => by rw [List.getElem?_eq_getElem hi] at hget; injection hget
    unfold APost at cl
    unfold giveA
    dsimp only
    cases i1 : inI (a.h - x) with
    | false =>
      rw [act_no i1] at cl ⊢
      obtain ⟨g, c, hcell, hrd, hq, hi, y1, y2, y3, y4⟩ := h.at_ hget
      rw [if_pos (by simp)]
      replace h := Lib.hid h
      replace hg := Lib.hid hg
      replace hrd := Lib.hid hrd
      replace hq := Lib.hid hq
      replace hst := Lib.hid hst
      replace hget := Lib.hid hget
      replace key := Lib.hid key
      replace hCi := Lib.hid hCi
      replace hw := Lib.hid hw
      replace hnm := Lib.hid hnm
      replace hs := Lib.hid hs
      replace ho := Lib.hid ho
      replace hx := Lib.hid hx
      replace i1 := Lib.hid i1
      go_enter Try.func30, Try.ntmps30
      go_wp2_with fail
      refine (ca.out _ h.out).mono ?_
      rintro e w1 ⟨rfl, rfl⟩
      dsimp only
      go_wp2_with fail
      refine (cl.out _).mono ?_
      rintro e w2 ⟨rfl, hm2⟩
      dsimp only
      replace hm2 := Lib.hid hm2
      go_wp2_with fail
      go_ret
      exact ⟨rfl, h.out.mod0 hm2.out, hm2.out.any _⟩
    | true =>
      rw [act_yes i1] at cl ⊢
      dsimp only at cl ⊢
      obtain ⟨v, hv⟩ : ∃ v, a.h - x = v := ⟨_, rfl⟩
      rw [hv] at cl ⊢
      rw [if_neg (by simp)]
      have hnew := key { a with h := v } rfl
      by_cases hf : 0 < x ∧ freeB a x = false
      · rw [if_pos hf]
        obtain ⟨g, c, hcell, hrd, hq, hi, y1, y2, y3, y4⟩ := h.at_ hget
        obtain ⟨hf1, hf2⟩ := hf
        rw [hf2] at cf
        have d1 : decide (0 < x) = true := decide_eq_true hf1
        replace h := Lib.hid h
        replace hg := Lib.hid hg
        replace hrd := Lib.hid hrd
        replace hq := Lib.hid hq
        replace hst := Lib.hid hst
        replace hget := Lib.hid hget
        replace key := Lib.hid key
        replace hCi := Lib.hid hCi
        replace hw := Lib.hid hw
        replace hnm := Lib.hid hnm
        replace hs := Lib.hid hs
        replace ho := Lib.hid ho
        replace hx := Lib.hid hx
        replace i1 := Lib.hid i1
        replace hv := Lib.hid hv
        replace hnew := Lib.hid hnew
        replace hf2 := Lib.hid hf2
        go_enter Try.func30, Try.ntmps30
        go_wp2_with fail
        refine (ca.out _ h.out).mono ?_
        rintro e w1 ⟨rfl, rfl⟩
        dsimp only
        go_wp2_with fail
        refine (cl.out _).mono ?_
        rintro e w2 ⟨rfl, hm2⟩
        dsimp only
        obtain ⟨z0, z1, z2, z3, z4⟩ : w2.cell? ⟨q, 0, none⟩ = some (.slice (some ⟨g, 0, none⟩) C.length c) ∧ w2.cell? ⟨g, i*4, none⟩ = some (.string (txt a.n)) ∧ w2.cell? ⟨g, i*4 + 1, none⟩ = some (.int .i64 a.h) ∧ w2.cell? ⟨g, i*4 + 2, none⟩ = some (.int .i64 a.s) ∧ w2.cell? ⟨g, i*4 + 3, none⟩ = some (.int .i64 a.l) := ⟨hm2.cell_some hcell (fun h => h), hm2.cell_some y1 (fun h => h), hm2.cell_some y2 (fun h => h), hm2.cell_some y3 (fun h => h), hm2.cell_some y4 (fun h => h)⟩
        replace hm2 := Lib.hid hm2
        clear hcell y1 y2 y3 y4
        go_wp2_with fail
        refine (cf.out _).mono ?_
        rintro e w3 ⟨rfl, hm3⟩
        dsimp only
        have hmm := Lib.hid (hm2.out.trans hm3)
        clear hm3 hm2
        go_wp2_with fail
        go_ret
        exact ⟨rfl, h.out.mod0 hmm.out, hmm.out.any _⟩
      · rw [if_neg hf]
        obtain ⟨g, c, hcell, hrd, hq, hi, y1, y2, y3, y4⟩ := h.at_ hget
        rw [if_neg (by have := hw.2.2.2.1; omega)]
        rcases (show (0 < x ∧ freeB a x = true) ∨ ¬ 0 < x by
          by_cases h0 : 0 < x
          · cases h1 : freeB a x with
            | true => exact .inl ⟨h0, rfl⟩
            | false => exact absurd ⟨h0, h1⟩ hf
          · exact .inr h0) with ⟨hf1, hf2⟩ | hf1
        · rw [hf2] at cf
          have d1 : decide (0 < x) = true := decide_eq_true hf1
          have hql := hq.lt
          have hCi' := hCi hi
          replace h := Lib.hid h
          replace hg := Lib.hid hg
          replace hrd := Lib.hid hrd
          replace hq := Lib.hid hq
          replace hst := Lib.hid hst
          replace hget := Lib.hid hget
          replace key := Lib.hid key
          replace hCi := Lib.hid hCi
          replace hw := Lib.hid hw
          replace hnm := Lib.hid hnm
          replace hs := Lib.hid hs
          replace ho := Lib.hid ho
          replace hx := Lib.hid hx
          replace i1 := Lib.hid i1
          replace hv := Lib.hid hv
          replace hnew := Lib.hid hnew
          replace hf2 := Lib.hid hf2
          replace hf := Lib.hid hf
          replace hB := Lib.hid hB
          replace hCi' := Lib.hid hCi'
          go_enter Try.func30, Try.ntmps30
          go_wp2_with fail
          refine (ca.out _ h.out).mono ?_
          rintro e w1 ⟨rfl, rfl⟩
          dsimp only
          go_wp2_with fail
          refine (cl.out _).mono ?_
          rintro e w2 ⟨rfl, hm2⟩
          dsimp only
          obtain ⟨z0, z1, z2, z3, z4⟩ : w2.cell? ⟨q, 0, none⟩ = some (.slice (some ⟨g, 0, none⟩) C.length c) ∧ w2.cell? ⟨g, i*4, none⟩ = some (.string (txt a.n)) ∧ w2.cell? ⟨g, i*4 + 1, none⟩ = some (.int .i64 a.h) ∧ w2.cell? ⟨g, i*4 + 2, none⟩ = some (.int .i64 a.s) ∧ w2.cell? ⟨g, i*4 + 3, none⟩ = some (.int .i64 a.l) := ⟨hm2.cell_some hcell (fun h => h), hm2.cell_some y1 (fun h => h), hm2.cell_some y2 (fun h => h), hm2.cell_some y3 (fun h => h), hm2.cell_some y4 (fun h => h)⟩
          replace hm2 := Lib.hid hm2
          clear hcell y1 y2 y3 y4
          go_wp2_with fail
          refine (cf.out _).mono ?_
          rintro e w3 ⟨rfl, hm3⟩
          dsimp only
          have hcell : w3.cell? ⟨q, 0, none⟩ = some (.slice (some ⟨g, 0, none⟩) C.length c) := hm3.cell_some z0 (fun h => h)
          have hmm := Lib.hid (hm2.out.trans hm3)
          clear hm3 hm2 z0 z1 z2 z3 z4
          go_wp2_with (at_builtin; go_loud (refine copyA rfl (.const (.slice none 0 0)) (.tmp 49) rfl rfl rfl (Rd.mod0 hrd.out hmm.out) hl ?_; intro A' c' w5 ho5 hm5 hf5; obtain ⟨g5, cur5, rfl, _⟩ := Ow.form ho5 (show 0 < C.length by omega); have hq5 := (hq.out.mod hmm.out (fun h => h)).mod hm5 (fun h => h); have u1 : w5.cell? ⟨q, 0, none⟩ = some (.slice (some ⟨g, 0, none⟩) C.length c) := hq5.cell_ rfl; have u2 : w5.frozen? ⟨q, 0, none⟩ = false := hq5.frozen 0; have u3 : w5.frozen? ⟨g5, i*4 + 1, none⟩ = false := Ow.free ho5 rfl _; have u4 : w5.cell? ⟨g5, i*4 + 1, none⟩ = (acs C)[i*4 + 1]? := Ow.cell_ ho5 rfl _ (by omega); rw [acs_at_h _ _ hi, hCi'.out] at u4; have u5 : g5 ≠ q := fun e => Ow.ne_blk ho5 hq5 (by decide) ⟨_, rfl, e⟩; have u6 := hq5.lt; have u7 := World.block_lt_of_cell? w5 _ u4; replace ho5 := Lib.hid ho5; replace hm5 := Lib.hid hm5; replace hf5 := Lib.hid hf5; replace hq5 := Lib.hid hq5))
          go_ret
          have e1 := acs_set_h C i hi v
          rw [hCi'.out] at e1
          have hfin : RefAt ((w5.setCell ⟨q, 0, none⟩ (.slice (some ⟨g5, 0, none⟩) C.length c')).setCell ⟨g5, i*4 + 1, none⟩ (.int .i64 v)) q B (C.set i { a with h := v }) := by
            refine ⟨some ⟨g5, 0, none⟩, c', ?_, ?_, ?_⟩
            · rw [List.length_set]
              exact (hq5.out.set_ 0 _).far (fun e => u5 e.symm) _
            · rw [List.length_set]
              unfold OwA
              rw [← e1]
              exact Ow.set_ (Ow.mod ho5.out ((Mod.refl (· = q) w5).setCell (.inl rfl) _) (by rintro k ⟨a, ha, rfl⟩; cases ha; exact u5)) rfl _ _
            · rintro k ⟨a, ha, rfl⟩
              have := hf5.out a ha
              have := hmm.out.size
              have := hB.out
              omega
          refine ⟨rfl, ?_, ?_⟩
          · rw [hnew.out]; exact hfin
          · refine (((hmm.out.trans hm5.out).any (· = q)).setCell (.inl rfl) _).setCell (.inr ?_) _
            have h7 : w3.heap.size ≤ g5 := hf5.out _ rfl
            have h8 := hmm.out.size
            show w.heap.size ≤ g5
            omega
        · have d1 : decide (0 < x) = false := decide_eq_false hf1
          have hql := hq.lt
          have hCi' := hCi hi
          replace h := Lib.hid h
          replace hg := Lib.hid hg
          replace hrd := Lib.hid hrd
          replace hq := Lib.hid hq
          replace hst := Lib.hid hst
          replace hget := Lib.hid hget
          replace key := Lib.hid key
          replace hCi := Lib.hid hCi
          replace hw := Lib.hid hw
          replace hnm := Lib.hid hnm
          replace hs := Lib.hid hs
          replace ho := Lib.hid ho
          replace hx := Lib.hid hx
          replace i1 := Lib.hid i1
          replace hv := Lib.hid hv
          replace hnew := Lib.hid hnew
          replace hf := Lib.hid hf
          replace hB := Lib.hid hB
          replace hCi' := Lib.hid hCi'
          go_enter Try.func30, Try.ntmps30
          go_wp2_with fail
          refine (ca.out _ h.out).mono ?_
          rintro e w1 ⟨rfl, rfl⟩
          dsimp only
          go_wp2_with fail
          refine (cl.out _).mono ?_
          rintro e w3 ⟨rfl, hmm⟩
          dsimp only
          replace hcell : w3.cell? ⟨q, 0, none⟩ = some (.slice (some ⟨g, 0, none⟩) C.length c) := hmm.cell_some hcell (fun h => h)
          replace hmm := Lib.hid hmm
          clear y1 y2 y3 y4
          go_wp2_with (at_builtin; go_loud (refine copyA rfl (.const (.slice none 0 0)) (.tmp 49) rfl rfl rfl (Rd.mod0 hrd.out hmm.out) hl ?_; intro A' c' w5 ho5 hm5 hf5; obtain ⟨g5, cur5, rfl, _⟩ := Ow.form ho5 (show 0 < C.length by omega); have hq5 := (hq.out.mod hmm.out (fun h => h)).mod hm5 (fun h => h); have u1 : w5.cell? ⟨q, 0, none⟩ = some (.slice (some ⟨g, 0, none⟩) C.length c) := hq5.cell_ rfl; have u2 : w5.frozen? ⟨q, 0, none⟩ = false := hq5.frozen 0; have u3 : w5.frozen? ⟨g5, i*4 + 1, none⟩ = false := Ow.free ho5 rfl _; have u4 : w5.cell? ⟨g5, i*4 + 1, none⟩ = (acs C)[i*4 + 1]? := Ow.cell_ ho5 rfl _ (by omega); rw [acs_at_h _ _ hi, hCi'.out] at u4; have u5 : g5 ≠ q := fun e => Ow.ne_blk ho5 hq5 (by decide) ⟨_, rfl, e⟩; have u6 := hq5.lt; have u7 := World.block_lt_of_cell? w5 _ u4; replace ho5 := Lib.hid ho5; replace hm5 := Lib.hid hm5; replace hf5 := Lib.hid hf5; replace hq5 := Lib.hid hq5))
          go_ret
          have e1 := acs_set_h C i hi v
          rw [hCi'.out] at e1
          have hfin : RefAt ((w5.setCell ⟨q, 0, none⟩ (.slice (some ⟨g5, 0, none⟩) C.length c')).setCell ⟨g5, i*4 + 1, none⟩ (.int .i64 v)) q B (C.set i { a with h := v }) := by
            refine ⟨some ⟨g5, 0, none⟩, c', ?_, ?_, ?_⟩
            · rw [List.length_set]
              exact (hq5.out.set_ 0 _).far (fun e => u5 e.symm) _
            · rw [List.length_set]
              unfold OwA
              rw [← e1]
              exact Ow.set_ (Ow.mod ho5.out ((Mod.refl (· = q) w5).setCell (.inl rfl) _) (by rintro k ⟨a, ha, rfl⟩; cases ha; exact u5)) rfl _ _
            · rintro k ⟨a, ha, rfl⟩
              have := hf5.out a ha
              have := hmm.out.size
              have := hB.out
              omega
          refine ⟨rfl, ?_, ?_⟩
          · rw [hnew.out]; exact hfin
          · refine (((hmm.out.trans hm5.out).any (· = q)).setCell (.inl rfl) _).setCell (.inr ?_) _
            have h7 : w3.heap.size ≤ g5 := hf5.out _ rfl
            have h8 := hmm.out.size
            show w.heap.size ≤ g5
            omega
set_option maxRecDepth 100000 in
set_option maxHeartbeats 4000000 in
theorem raside_ok (w : World) (q B : Nat) (C : List Ac) (s : List UInt8) (x : Int) (h : RefAt w q B C) (hs : SortedC C) (ho : OkC C) (hx : I64 x) (hB : B ≤ w.heap.size) :
    Calls Try.prog 32 #[.pointer (some ⟨q, 0, none⟩), .string (txt s), .int .i64 x] w (RfPost w q B (turnR C s x (asideA x))) := by
  have hl : C.length ≤ 1000 := by have := ho.2; omega
  unfold turnR
  cases hg : getC C s with
  | none =>
    have ca := Lib.hid (fun W (h : RefAt W q B C) => rat_none W q B C s h hl hg)
    replace h := Lib.hid h
    replace hg := Lib.hid hg
    replace hs := Lib.hid hs
    replace ho := Lib.hid ho
    replace hx := Lib.hid hx
    go_enter Try.func32, Try.ntmps32
    go_wp2_with fail
    refine (ca.out _ h.out).mono ?_
    rintro e w1 ⟨rfl, rfl⟩
    dsimp only
    go_wp2_with fail
    go_ret
    exact ⟨rfl, h.out, Mod.refl _ _⟩
  | some a =>
    obtain ⟨i, hst, hget⟩ := stands_of hg
    have hw := ho.wf a (getC_mem hg)
    have hnm := getC_name hg
    have ca := Lib.hid (fun W (h : RefAt W q B C) => rat_some W q B C s i h hl hst)
    have cl := Lib.hid (fun W => (radd_ok W a.s x hw.2.1 hx).mono (fun e w' hp => SPost.act hp))
    have cf := Lib.hid (fun W => rfree_ok W a x hw hx)
    dsimp only
    have key : ∀ (b : Ac), b.n = a.n → setC C b = C.set i b := fun b hb => by
      obtain ⟨hi, hn, _⟩ := hst
      exact set_at hs hi (by rw [hn, hb, hnm])
    have hCi : ∀ hi : i < C.length, C[i] = a := fun hi => by rw [List.getElem?_eq_getElem hi] at hget; injection hget
    unfold APost at cl
    unfold asideA
    dsimp only
    cases i1 : inI (a.s + x) with
    | false =>
      rw [act_no i1] at cl ⊢
      obtain ⟨g, c, hcell, hrd, hq, hi, y1, y2, y3, y4⟩ := h.at_ hget
      rw [if_pos (by simp)]
      replace h := Lib.hid h
      replace hg := Lib.hid hg
      replace hrd := Lib.hid hrd
      replace hq := Lib.hid hq
      replace hst := Lib.hid hst
      replace hget := Lib.hid hget
      replace key := Lib.hid key
      replace hCi := Lib.hid hCi
      replace hw := Lib.hid hw
      replace hnm := Lib.hid hnm
      replace hs := Lib.hid hs
      replace ho := Lib.hid ho
      replace hx := Lib.hid hx
      replace i1 := Lib.hid i1
      go_enter Try.func32, Try.ntmps32
      go_wp2_with fail
      refine (ca.out _ h.out).mono ?_
      rintro e w1 ⟨rfl, rfl⟩
      dsimp only
      go_wp2_with fail
      refine (cl.out _).mono ?_
      rintro e w2 ⟨rfl, hm2⟩
      dsimp only
      replace hm2 := Lib.hid hm2
      go_wp2_with fail
      go_ret
      exact ⟨rfl, h.out.mod0 hm2.out, hm2.out.any _⟩
    | true =>
      rw [act_yes i1] at cl ⊢
      dsimp only at cl ⊢
      obtain ⟨v, hv⟩ : ∃ v, a.s + x = v := ⟨_, rfl⟩
      rw [hv] at cl ⊢
      rw [if_neg (by simp)]
      have hnew := key { a with s := v } rfl
      by_cases hf : 0 < x ∧ freeB a x = false
      · rw [if_pos hf]
        obtain ⟨g, c, hcell, hrd, hq, hi, y1, y2, y3, y4⟩ := h.at_ hget
        obtain ⟨hf1, hf2⟩ := hf
        rw [hf2] at cf
        have d1 : decide (0 < x) = true := decide_eq_true hf1
        replace h := Lib.hid h
        replace hg := Lib.hid hg
        replace hrd := Lib.hid hrd
        replace hq := Lib.hid hq
        replace hst := Lib.hid hst
        replace hget := Lib.hid hget
        replace key := Lib.hid key
        replace hCi := Lib.hid hCi
        replace hw := Lib.hid hw
        replace hnm := Lib.hid hnm
        replace hs := Lib.hid hs
        replace ho := Lib.hid ho
        replace hx := Lib.hid hx
        replace i1 := Lib.hid i1
        replace hv := Lib.hid hv
        replace hnew := Lib.hid hnew
        replace hf2 := Lib.hid hf2
        go_enter Try.func32, Try.ntmps32
        go_wp2_with fail
        refine (ca.out _ h.out).mono ?_
        rintro e w1 ⟨rfl, rfl⟩
        dsimp only
        go_wp2_with fail
        refine (cl.out _).mono ?_
        rintro e w2 ⟨rfl, hm2⟩
        dsimp only
        obtain ⟨z0, z1, z2, z3, z4⟩ : w2.cell? ⟨q, 0, none⟩ = some (.slice (some ⟨g, 0, none⟩) C.length c) ∧ w2.cell? ⟨g, i*4, none⟩ = some (.string (txt a.n)) ∧ w2.cell? ⟨g, i*4 + 1, none⟩ = some (.int .i64 a.h) ∧ w2.cell? ⟨g, i*4 + 2, none⟩ = some (.int .i64 a.s) ∧ w2.cell? ⟨g, i*4 + 3, none⟩ = some (.int .i64 a.l) := ⟨hm2.cell_some hcell (fun h => h), hm2.cell_some y1 (fun h => h), hm2.cell_some y2 (fun h => h), hm2.cell_some y3 (fun h => h), hm2.cell_some y4 (fun h => h)⟩
        replace hm2 := Lib.hid hm2
        clear hcell y1 y2 y3 y4
        go_wp2_with fail
        refine (cf.out _).mono ?_
        rintro e w3 ⟨rfl, hm3⟩
        dsimp only
        have hmm := Lib.hid (hm2.out.trans hm3)
        clear hm3 hm2
        go_wp2_with fail
        go_ret
        exact ⟨rfl, h.out.mod0 hmm.out, hmm.out.any _⟩
      · rw [if_neg hf]
        obtain ⟨g, c, hcell, hrd, hq, hi, y1, y2, y3, y4⟩ := h.at_ hget
        by_cases hneg : v < 0
        · rw [if_pos hneg]
          have d2 : decide (v < 0) = true := decide_eq_true hneg
          have hneg0 := hneg
          clear hneg
          rcases (show (0 < x ∧ freeB a x = true) ∨ ¬ 0 < x by
            by_cases h0 : 0 < x
            · cases h1 : freeB a x with
              | true => exact .inl ⟨h0, rfl⟩
              | false => exact absurd ⟨h0, h1⟩ hf
            · exact .inr h0) with ⟨hf1, hf2⟩ | hf1
          · rw [hf2] at cf
            have d1 : decide (0 < x) = true := decide_eq_true hf1
            have hql := hq.lt
            have hCi' := hCi hi
            replace h := Lib.hid h
            replace hg := Lib.hid hg
            replace hrd := Lib.hid hrd
            replace hq := Lib.hid hq
            replace hst := Lib.hid hst
            replace hget := Lib.hid hget
            replace key := Lib.hid key
            replace hCi := Lib.hid hCi
            replace hw := Lib.hid hw
            replace hnm := Lib.hid hnm
            replace hs := Lib.hid hs
            replace ho := Lib.hid ho
            replace hx := Lib.hid hx
            replace i1 := Lib.hid i1
            replace hv := Lib.hid hv
            replace hnew := Lib.hid hnew
            replace hf2 := Lib.hid hf2
            replace hf := Lib.hid hf
            replace hB := Lib.hid hB
            replace hCi' := Lib.hid hCi'
            replace hneg0 := Lib.hid hneg0
            go_enter Try.func32, Try.ntmps32
            go_wp2_with fail
            refine (ca.out _ h.out).mono ?_
            rintro e w1 ⟨rfl, rfl⟩
            dsimp only
            go_wp2_with fail
            refine (cl.out _).mono ?_
            rintro e w2 ⟨rfl, hm2⟩
            dsimp only
            obtain ⟨z0, z1, z2, z3, z4⟩ : w2.cell? ⟨q, 0, none⟩ = some (.slice (some ⟨g, 0, none⟩) C.length c) ∧ w2.cell? ⟨g, i*4, none⟩ = some (.string (txt a.n)) ∧ w2.cell? ⟨g, i*4 + 1, none⟩ = some (.int .i64 a.h) ∧ w2.cell? ⟨g, i*4 + 2, none⟩ = some (.int .i64 a.s) ∧ w2.cell? ⟨g, i*4 + 3, none⟩ = some (.int .i64 a.l) := ⟨hm2.cell_some hcell (fun h => h), hm2.cell_some y1 (fun h => h), hm2.cell_some y2 (fun h => h), hm2.cell_some y3 (fun h => h), hm2.cell_some y4 (fun h => h)⟩
            replace hm2 := Lib.hid hm2
            clear hcell y1 y2 y3 y4
            go_wp2_with fail
            refine (cf.out _).mono ?_
            rintro e w3 ⟨rfl, hm3⟩
            dsimp only
            have hcell : w3.cell? ⟨q, 0, none⟩ = some (.slice (some ⟨g, 0, none⟩) C.length c) := hm3.cell_some z0 (fun h => h)
            have hmm := Lib.hid (hm2.out.trans hm3)
            clear hm3 hm2 z0 z1 z2 z3 z4
            go_wp2_with fail
            go_ret
            exact ⟨rfl, h.out.mod0 hmm.out, hmm.out.any _⟩
          · have d1 : decide (0 < x) = false := decide_eq_false hf1
            have hql := hq.lt
            have hCi' := hCi hi
            replace h := Lib.hid h
            replace hg := Lib.hid hg
            replace hrd := Lib.hid hrd
            replace hq := Lib.hid hq
            replace hst := Lib.hid hst
            replace hget := Lib.hid hget
            replace key := Lib.hid key
            replace hCi := Lib.hid hCi
            replace hw := Lib.hid hw
            replace hnm := Lib.hid hnm
            replace hs := Lib.hid hs
            replace ho := Lib.hid ho
            replace hx := Lib.hid hx
            replace i1 := Lib.hid i1
            replace hv := Lib.hid hv
            replace hnew := Lib.hid hnew
            replace hf := Lib.hid hf
            replace hB := Lib.hid hB
            replace hCi' := Lib.hid hCi'
            replace hneg0 := Lib.hid hneg0
            go_enter Try.func32, Try.ntmps32
            go_wp2_with fail
            refine (ca.out _ h.out).mono ?_
            rintro e w1 ⟨rfl, rfl⟩
            dsimp only
            go_wp2_with fail
            refine (cl.out _).mono ?_
            rintro e w3 ⟨rfl, hmm⟩
            dsimp only
            replace hcell : w3.cell? ⟨q, 0, none⟩ = some (.slice (some ⟨g, 0, none⟩) C.length c) := hmm.cell_some hcell (fun h => h)
            replace hmm := Lib.hid hmm
            clear y1 y2 y3 y4
            go_wp2_with fail
            go_ret
            exact ⟨rfl, h.out.mod0 hmm.out, hmm.out.any _⟩
        rw [if_neg hneg]
        have d2 : decide (v < 0) = false := decide_eq_false hneg
        have hneg0 := hneg
        clear hneg
        rcases (show (0 < x ∧ freeB a x = true) ∨ ¬ 0 < x by
          by_cases h0 : 0 < x
          · cases h1 : freeB a x with
            | true => exact .inl ⟨h0, rfl⟩
            | false => exact absurd ⟨h0, h1⟩ hf
          · exact .inr h0) with ⟨hf1, hf2⟩ | hf1
        · rw [hf2] at cf
          have d1 : decide (0 < x) = true := decide_eq_true hf1
          have hql := hq.lt
          have hCi' := hCi hi
          replace h := Lib.hid h
          replace hg := Lib.hid hg
          replace hrd := Lib.hid hrd
          replace hq := Lib.hid hq
          replace hst := Lib.hid hst
          replace hget := Lib.hid hget
          replace key := Lib.hid key
          replace hCi := Lib.hid hCi
          replace hw := Lib.hid hw
          replace hnm := Lib.hid hnm
          replace hs := Lib.hid hs
          replace ho := Lib.hid ho
          replace hx := Lib.hid hx
          replace i1 := Lib.hid i1
          replace hv := Lib.hid hv
          replace hnew := Lib.hid hnew
          replace hf2 := Lib.hid hf2
          replace hf := Lib.hid hf
          replace hB := Lib.hid hB
          replace hCi' := Lib.hid hCi'
          go_enter Try.func32, Try.ntmps32
          go_wp2_with fail
          refine (ca.out _ h.out).mono ?_
          rintro e w1 ⟨rfl, rfl⟩
          dsimp only
          go_wp2_with fail
          refine (cl.out _).mono ?_
          rintro e w2 ⟨rfl, hm2⟩
          dsimp only
          obtain ⟨z0, z1, z2, z3, z4⟩ : w2.cell? ⟨q, 0, none⟩ = some (.slice (some ⟨g, 0, none⟩) C.length c) ∧ w2.cell? ⟨g, i*4, none⟩ = some (.string (txt a.n)) ∧ w2.cell? ⟨g, i*4 + 1, none⟩ = some (.int .i64 a.h) ∧ w2.cell? ⟨g, i*4 + 2, none⟩ = some (.int .i64 a.s) ∧ w2.cell? ⟨g, i*4 + 3, none⟩ = some (.int .i64 a.l) := ⟨hm2.cell_some hcell (fun h => h), hm2.cell_some y1 (fun h => h), hm2.cell_some y2 (fun h => h), hm2.cell_some y3 (fun h => h), hm2.cell_some y4 (fun h => h)⟩
          replace hm2 := Lib.hid hm2
          clear hcell y1 y2 y3 y4
          go_wp2_with fail
          refine (cf.out _).mono ?_
          rintro e w3 ⟨rfl, hm3⟩
          dsimp only
          have hcell : w3.cell? ⟨q, 0, none⟩ = some (.slice (some ⟨g, 0, none⟩) C.length c) := hm3.cell_some z0 (fun h => h)
          have hmm := Lib.hid (hm2.out.trans hm3)
          clear hm3 hm2 z0 z1 z2 z3 z4
          go_wp2_with (at_builtin; go_loud (refine copyA rfl (.const (.slice none 0 0)) (.tmp 51) rfl rfl rfl (Rd.mod0 hrd.out hmm.out) hl ?_; intro A' c' w5 ho5 hm5 hf5; obtain ⟨g5, cur5, rfl, _⟩ := Ow.form ho5 (show 0 < C.length by omega); have hq5 := (hq.out.mod hmm.out (fun h => h)).mod hm5 (fun h => h); have u1 : w5.cell? ⟨q, 0, none⟩ = some (.slice (some ⟨g, 0, none⟩) C.length c) := hq5.cell_ rfl; have u2 : w5.frozen? ⟨q, 0, none⟩ = false := hq5.frozen 0; have u3 : w5.frozen? ⟨g5, i*4 + 2, none⟩ = false := Ow.free ho5 rfl _; have u4 : w5.cell? ⟨g5, i*4 + 2, none⟩ = (acs C)[i*4 + 2]? := Ow.cell_ ho5 rfl _ (by omega); rw [acs_at_s _ _ hi, hCi'.out] at u4; have u5 : g5 ≠ q := fun e => Ow.ne_blk ho5 hq5 (by decide) ⟨_, rfl, e⟩; have u6 := hq5.lt; have u7 := World.block_lt_of_cell? w5 _ u4; replace ho5 := Lib.hid ho5; replace hm5 := Lib.hid hm5; replace hf5 := Lib.hid hf5; replace hq5 := Lib.hid hq5))
          go_ret
          have e1 := acs_set_s C i hi v
          rw [hCi'.out] at e1
          have hfin : RefAt ((w5.setCell ⟨q, 0, none⟩ (.slice (some ⟨g5, 0, none⟩) C.length c')).setCell ⟨g5, i*4 + 2, none⟩ (.int .i64 v)) q B (C.set i { a with s := v }) := by
            refine ⟨some ⟨g5, 0, none⟩, c', ?_, ?_, ?_⟩
            · rw [List.length_set]
              exact (hq5.out.set_ 0 _).far (fun e => u5 e.symm) _
            · rw [List.length_set]
              unfold OwA
              rw [← e1]
              exact Ow.set_ (Ow.mod ho5.out ((Mod.refl (· = q) w5).setCell (.inl rfl) _) (by rintro k ⟨a, ha, rfl⟩; cases ha; exact u5)) rfl _ _
            · rintro k ⟨a, ha, rfl⟩
              have := hf5.out a ha
              have := hmm.out.size
              have := hB.out
              omega
          refine ⟨rfl, ?_, ?_⟩
          · rw [hnew.out]; exact hfin
          · refine (((hmm.out.trans hm5.out).any (· = q)).setCell (.inl rfl) _).setCell (.inr ?_) _
            have h7 : w3.heap.size ≤ g5 := hf5.out _ rfl
            have h8 := hmm.out.size
            show w.heap.size ≤ g5
            omega
        · have d1 : decide (0 < x) = false := decide_eq_false hf1
          have hql := hq.lt
          have hCi' := hCi hi
          replace h := Lib.hid h
          replace hg := Lib.hid hg
          replace hrd := Lib.hid hrd
          replace hq := Lib.hid hq
          replace hst := Lib.hid hst
          replace hget := Lib.hid hget
          replace key := Lib.hid key
          replace hCi := Lib.hid hCi
          replace hw := Lib.hid hw
          replace hnm := Lib.hid hnm
          replace hs := Lib.hid hs
          replace ho := Lib.hid ho
          replace hx := Lib.hid hx
          replace i1 := Lib.hid i1
          replace hv := Lib.hid hv
          replace hnew := Lib.hid hnew
          replace hf := Lib.hid hf
          replace hB := Lib.hid hB
          replace hCi' := Lib.hid hCi'
          go_enter Try.func32, Try.ntmps32
          go_wp2_with fail
          refine (ca.out _ h.out).mono ?_
          rintro e w1 ⟨rfl, rfl⟩
          dsimp only
          go_wp2_with fail
          refine (cl.out _).mono ?_
          rintro e w3 ⟨rfl, hmm⟩
          dsimp only
          replace hcell : w3.cell? ⟨q, 0, none⟩ = some (.slice (some ⟨g, 0, none⟩) C.length c) := hmm.cell_some hcell (fun h => h)
          replace hmm := Lib.hid hmm
          clear y1 y2 y3 y4
          go_wp2_with (at_builtin; go_loud (refine copyA rfl (.const (.slice none 0 0)) (.tmp 51) rfl rfl rfl (Rd.mod0 hrd.out hmm.out) hl ?_; intro A' c' w5 ho5 hm5 hf5; obtain ⟨g5, cur5, rfl, _⟩ := Ow.form ho5 (show 0 < C.length by omega); have hq5 := (hq.out.mod hmm.out (fun h => h)).mod hm5 (fun h => h); have u1 : w5.cell? ⟨q, 0, none⟩ = some (.slice (some ⟨g, 0, none⟩) C.length c) := hq5.cell_ rfl; have u2 : w5.frozen? ⟨q, 0, none⟩ = false := hq5.frozen 0; have u3 : w5.frozen? ⟨g5, i*4 + 2, none⟩ = false := Ow.free ho5 rfl _; have u4 : w5.cell? ⟨g5, i*4 + 2, none⟩ = (acs C)[i*4 + 2]? := Ow.cell_ ho5 rfl _ (by omega); rw [acs_at_s _ _ hi, hCi'.out] at u4; have u5 : g5 ≠ q := fun e => Ow.ne_blk ho5 hq5 (by decide) ⟨_, rfl, e⟩; have u6 := hq5.lt; have u7 := World.block_lt_of_cell? w5 _ u4; replace ho5 := Lib.hid ho5; replace hm5 := Lib.hid hm5; replace hf5 := Lib.hid hf5; replace hq5 := Lib.hid hq5))
          go_ret
          have e1 := acs_set_s C i hi v
          rw [hCi'.out] at e1
          have hfin : RefAt ((w5.setCell ⟨q, 0, none⟩ (.slice (some ⟨g5, 0, none⟩) C.length c')).setCell ⟨g5, i*4 + 2, none⟩ (.int .i64 v)) q B (C.set i { a with s := v }) := by
            refine ⟨some ⟨g5, 0, none⟩, c', ?_, ?_, ?_⟩
            · rw [List.length_set]
              exact (hq5.out.set_ 0 _).far (fun e => u5 e.symm) _
            · rw [List.length_set]
              unfold OwA
              rw [← e1]
              exact Ow.set_ (Ow.mod ho5.out ((Mod.refl (· = q) w5).setCell (.inl rfl) _) (by rintro k ⟨a, ha, rfl⟩; cases ha; exact u5)) rfl _ _
            · rintro k ⟨a, ha, rfl⟩
              have := hf5.out a ha
              have := hmm.out.size
              have := hB.out
              omega
          refine ⟨rfl, ?_, ?_⟩
          · rw [hnew.out]; exact hfin
          · refine (((hmm.out.trans hm5.out).any (· = q)).setCell (.inl rfl) _).setCell (.inr ?_) _
            have h7 : w3.heap.size ≤ g5 := hf5.out _ rfl
            have h8 := hmm.out.size
            show w.heap.size ≤ g5
            omega
end Go.Proofs.Ytaohgefpnndjcaa
