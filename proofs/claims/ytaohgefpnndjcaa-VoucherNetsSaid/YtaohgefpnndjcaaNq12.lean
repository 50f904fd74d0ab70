import Derived.Test.YtaohgefpnndjcaaNq11
import Derived.Test.YtaohgefpnndjcaaNq6
import Derived.Test.YtaohgefpnndjcaaNq7
import Derived.Test.YtaohgefpnndjcaaNq5
import Derived.Deep.RegionLaw
import Derived.Test.YtaohgefpnndjcaaNq8
import Derived.Test.YtaohgefpnndjcaaNq9
import Derived.Deep.RegionHeld3
/-
  The reference's Give, Aside and Total.
-/
namespace Go.Proofs.Ytaohgefpnndjcaa
set_option linter.unusedVariables false
open Go.RowKit
theorem acs_at_h (C : List Ac) (i : Nat) (hi : i < C.length) : (acs C)[i*4 + 1]? = some (.int .i64 C[i].h) := flat_get (fun a : Ac => [Value.string (txt a.n), .int .i64 a.h, .int .i64 a.s, .int .i64 a.l]) 4 (fun _ => rfl) C i C[i] (List.getElem?_eq_getElem hi) 1 (by omega)
theorem acs_at_s (C : List Ac) (i : Nat) (hi : i < C.length) : (acs C)[i*4 + 2]? = some (.int .i64 C[i].s) := flat_get (fun a : Ac => [Value.string (txt a.n), .int .i64 a.h, .int .i64 a.s, .int .i64 a.l]) 4 (fun _ => rfl) C i C[i] (List.getElem?_eq_getElem hi) 2 (by omega)
set_option maxRecDepth 100000 in
set_option maxHeartbeats 4000000 in
theorem rgive_ok (w : World) (q B : Nat) (C : List Ac) (s : List UInt8) (x : Int) (h : RefAt w q B C) (hs : SortedC C) (ho : OkC C) (hx : I64 x) (hB : B ≤ w.heap.size) :
    Calls Try.prog 30 #[.pointer (some ⟨q, 0, none⟩), .string (txt s), .int .i64 x] w (RfPost w q B (turnR C s x (giveA x))) := by
  have hl : C.length ≤ 1000 := by have := ho.2; omega
  unfold turnR
  cases hg : getC C s with
  | none =>
    have ca := Lib.hid (fun W (h : RefAt W q B C) => rat_none W q B C s h hl hg)
    replace h := Lib.hid h
    replace hg := Lib.hid hg
    replace hs := Lib.hid hs
    replace ho := Lib.hid ho
    replace hx := Lib.hid hx
    go_enter Try.func30, Try.ntmps30
    go_wp2_with fail
    refine (ca.out _ h.out).mono ?_
    rintro e w1 ⟨rfl, rfl⟩
    dsimp only
    go_wp2_with fail
    go_ret
    exact ⟨rfl, h.out, Mod.refl _ _⟩
  | some a =>
    obtain ⟨i, hst, hget⟩ := stands_of hg
    have hw := ho.wf a (getC_mem hg)
    have hnm := getC_name hg
    have ca := Lib.hid (fun W (h : RefAt W q B C) => rat_some W q B C s i h hl hst)
    have cl := Lib.hid (fun W => (rless_ok W a.h x hw.1 hx).mono (fun e w' hp => SPost.act hp))
    have cf := Lib.hid (fun W => rfree_ok W a x hw hx)
    dsimp only
    have key : ∀ (b : Ac), b.n = a.n → setC C b = C.set i b := fun b hb => by
      obtain ⟨hi, hn, _⟩ := hst
      exact set_at hs hi (by rw [hn, hb, hnm])
    have hCi : ∀ hi : i < C.length, C[i] = a := fun hi => by rw [List.getElem?_eq_getElem hi] at hget; injection hget
    unfold APost at cl
    unfold giveA
    dsimp only
    cases i1 : inI (a.h - x) with
    | false =>
      rw [act_no i1] at cl ⊢
      obtain ⟨g, c, hcell, hrd, hq, hi, y1, y2, y3, y4⟩ := h.at_ hget
      rw [if_pos (by simp)]
      replace h := Lib.hid h
      replace hg := Lib.hid hg
      replace hrd := Lib.hid hrd
      replace hq := Lib.hid hq
      replace hst := Lib.hid hst
      replace hget := Lib.hid hget
      replace key := Lib.hid key
      replace hCi := Lib.hid hCi
      replace hw := Lib.hid hw
      replace hnm := Lib.hid hnm
      replace hs := Lib.hid hs
      replace ho := Lib.hid ho
      replace hx := Lib.hid hx
      replace i1 := Lib.hid i1
      go_enter Try.func30, Try.ntmps30
      go_wp2_with fail
      refine (ca.out _ h.out).mono ?_
      rintro e w1 ⟨rfl, rfl⟩
      dsimp only
      go_wp2_with fail
      refine (cl.out _).mono ?_
      rintro e w2 ⟨rfl, hm2⟩
      dsimp only
      replace hm2 := Lib.hid hm2
      go_wp2_with fail
      go_ret
      exact ⟨rfl, h.out.mod0 hm2.out, hm2.out.any _⟩
    | true =>
      rw [act_yes i1] at cl ⊢
      dsimp only at cl ⊢
      obtain ⟨v, hv⟩ : ∃ v, a.h - x = v := ⟨_, rfl⟩
      rw [hv] at cl ⊢
      rw [if_neg (by simp)]
      have hnew := key { a with h := v } rfl
      by_cases hf : 0 < x ∧ freeB a x = false
      · rw [if_pos hf]
        obtain ⟨g, c, hcell, hrd, hq, hi, y1, y2, y3, y4⟩ := h.at_ hget
        obtain ⟨hf1, hf2⟩ := hf
        rw [hf2] at cf
        have d1 : decide (0 < x) = true := decide_eq_true hf1
        replace h := Lib.hid h
        replace hg := Lib.hid hg
        replace hrd := Lib.hid hrd
        replace hq := Lib.hid hq
        replace hst := Lib.hid hst
        replace hget := Lib.hid hget
        replace key := Lib.hid key
        replace hCi := Lib.hid hCi
        replace hw := Lib.hid hw
        replace hnm := Lib.hid hnm
        replace hs := Lib.hid hs
        replace ho := Lib.hid ho
        replace hx := Lib.hid hx
        replace i1 := Lib.hid i1
        replace hv := Lib.hid hv
        replace hnew := Lib.hid hnew
        replace hf2 := Lib.hid hf2
        go_enter Try.func30, Try.ntmps30
        go_wp2_with fail
        refine (ca.out _ h.out).mono ?_
        rintro e w1 ⟨rfl, rfl⟩
        dsimp only
        go_wp2_with fail
        refine (cl.out _).mono ?_
        rintro e w2 ⟨rfl, hm2⟩
        dsimp only
        obtain ⟨z0, z1, z2, z3, z4⟩ : w2.cell? ⟨q, 0, none⟩ = some (.slice (some ⟨g, 0, none⟩) C.length c) ∧ w2.cell? ⟨g, i*4, none⟩ = some (.string (txt a.n)) ∧ w2.cell? ⟨g, i*4 + 1, none⟩ = some (.int .i64 a.h) ∧ w2.cell? ⟨g, i*4 + 2, none⟩ = some (.int .i64 a.s) ∧ w2.cell? ⟨g, i*4 + 3, none⟩ = some (.int .i64 a.l) := ⟨hm2.cell_some hcell (fun h => h), hm2.cell_some y1 (fun h => h), hm2.cell_some y2 (fun h => h), hm2.cell_some y3 (fun h => h), hm2.cell_some y4 (fun h => h)⟩
        replace hm2 := Lib.hid hm2
        clear hcell y1 y2 y3 y4
        go_wp2_with fail
        refine (cf.out _).mono ?_
        rintro e w3 ⟨rfl, hm3⟩
        dsimp only
        have hmm := Lib.hid (hm2.out.trans hm3)
        clear hm3 hm2
        go_wp2_with fail
        go_ret
        exact ⟨rfl, h.out.mod0 hmm.out, hmm.out.any _⟩
      · rw [if_neg hf]
        obtain ⟨g, c, hcell, hrd, hq, hi, y1, y2, y3, y4⟩ := h.at_ hget
        rw [if_neg (by have := hw.2.2.2.1; omega)]
        rcases (show (0 < x ∧ freeB a x = true) ∨ ¬ 0 < x by
          by_cases h0 : 0 < x
          · cases h1 : freeB a x with
            | true => exact .inl ⟨h0, rfl⟩
            | false => exact absurd ⟨h0, h1⟩ hf
          · exact .inr h0) with ⟨hf1, hf2⟩ | hf1
        · rw [hf2] at cf
          have d1 : decide (0 < x) = true := decide_eq_true hf1
          have hql := hq.lt
          have hCi' := hCi hi
          replace h := Lib.hid h
          replace hg := Lib.hid hg
          replace hrd := Lib.hid hrd
          replace hq := Lib.hid hq
          replace hst := Lib.hid hst
          replace hget := Lib.hid hget
          replace key := Lib.hid key
          replace hCi := Lib.hid hCi
          replace hw := Lib.hid hw
          replace hnm := Lib.hid hnm
          replace hs := Lib.hid hs
          replace ho := Lib.hid ho
          replace hx := Lib.hid hx
          replace i1 := Lib.hid i1
          replace hv := Lib.hid hv
          replace hnew := Lib.hid hnew
          replace hf2 := Lib.hid hf2
          replace hf := Lib.hid hf
          replace hB := Lib.hid hB
          replace hCi' := Lib.hid hCi'
          go_enter Try.func30, Try.ntmps30
          go_wp2_with fail
          refine (ca.out _ h.out).mono ?_
          rintro e w1 ⟨rfl, rfl⟩
          dsimp only
          go_wp2_with fail
          refine (cl.out _).mono ?_
          rintro e w2 ⟨rfl, hm2⟩
          dsimp only
          obtain ⟨z0, z1, z2, z3, z4⟩ : w2.cell? ⟨q, 0, none⟩ = some (.slice (some ⟨g, 0, none⟩) C.length c) ∧ w2.cell? ⟨g, i*4, none⟩ = some (.string (txt a.n)) ∧ w2.cell? ⟨g, i*4 + 1, none⟩ = some (.int .i64 a.h) ∧ w2.cell? ⟨g, i*4 + 2, none⟩ = some (.int .i64 a.s) ∧ w2.cell? ⟨g, i*4 + 3, none⟩ = some (.int .i64 a.l) := ⟨hm2.cell_some hcell (fun h => h), hm2.cell_some y1 (fun h => h), hm2.cell_some y2 (fun h => h), hm2.cell_some y3 (fun h => h), hm2.cell_some y4 (fun h => h)⟩
          replace hm2 := Lib.hid hm2
          clear hcell y1 y2 y3 y4
          go_wp2_with fail
          refine (cf.out _).mono ?_
          rintro e w3 ⟨rfl, hm3⟩
          dsimp only
          have hcell : w3.cell? ⟨q, 0, none⟩ = some (.slice (some ⟨g, 0, none⟩) C.length c) := hm3.cell_some z0 (fun h => h)
          have hmm := Lib.hid (hm2.out.trans hm3)
          clear hm3 hm2 z0 z1 z2 z3 z4
          go_wp2_with (at_builtin; go_loud (refine copyA rfl (.const (.slice none 0 0)) (.tmp 49) rfl rfl rfl (Rd.mod0 hrd.out hmm.out) hl ?_; intro A' c' w5 ho5 hm5 hf5; obtain ⟨g5, cur5, rfl, _⟩ := Ow.form ho5 (show 0 < C.length by omega); have hq5 := (hq.out.mod hmm.out (fun h => h)).mod hm5 (fun h => h); have u1 : w5.cell? ⟨q, 0, none⟩ = some (.slice (some ⟨g, 0, none⟩) C.length c) := hq5.cell_ rfl; have u2 : w5.frozen? ⟨q, 0, none⟩ = false := hq5.frozen 0; have u3 : w5.frozen? ⟨g5, i*4 + 1, none⟩ = false := Ow.free ho5 rfl _; have u4 : w5.cell? ⟨g5, i*4 + 1, none⟩ = (acs C)[i*4 + 1]? := Ow.cell_ ho5 rfl _ (by omega); rw [acs_at_h _ _ hi, hCi'.out] at u4; have u5 : g5 ≠ q := fun e => Ow.ne_blk ho5 hq5 (by decide) ⟨_, rfl, e⟩; have u6 := hq5.lt; have u7 := World.block_lt_of_cell? w5 _ u4; replace ho5 := Lib.hid ho5; replace hm5 := Lib.hid hm5; replace hf5 := Lib.hid hf5; replace hq5 := Lib.hid hq5))
          go_ret
          have e1 := acs_set_h C i hi v
          rw [hCi'.out] at e1
          have hfin : RefAt ((w5.setCell ⟨q, 0, none⟩ (.slice (some ⟨g5, 0, none⟩) C.length c')).setCell ⟨g5, i*4 + 1, none⟩ (.int .i64 v)) q B (C.set i { a with h := v }) := by
            refine ⟨some ⟨g5, 0, none⟩, c', ?_, ?_, ?_⟩
            · rw [List.length_set]
              exact (hq5.out.set_ 0 _).far (fun e => u5 e.symm) _
            · rw [List.length_set]
              unfold OwA
              rw [← e1]
              exact Ow.set_ (Ow.mod ho5.out ((Mod.refl (· = q) w5).setCell (.inl rfl) _) (by rintro k ⟨a, ha, rfl⟩; cases ha; exact u5)) rfl _ _
            · rintro k ⟨a, ha, rfl⟩
              have := hf5.out a ha
              have := hmm.out.size
              have := hB.out
              omega
          refine ⟨rfl, ?_, ?_⟩
          · rw [hnew.out]; exact hfin
          · refine (((hmm.out.trans hm5.out).any (· = q)).setCell (.inl rfl) _).setCell (.inr ?_) _
            have h7 : w3.heap.size ≤ g5 := hf5.out _ rfl
            have h8 := hmm.out.size
            show w.heap.size ≤ g5
            omega
        · have d1 : decide (0 < x) = false := decide_eq_false hf1
          have hql := hq.lt
          have hCi' := hCi hi
          replace h := Lib.hid h
          replace hg := Lib.hid hg
          replace hrd := Lib.hid hrd
          replace hq := Lib.hid hq
          replace hst := Lib.hid hst
          replace hget := Lib.hid hget
          replace key := Lib.hid key
          replace hCi := Lib.hid hCi
          replace hw := Lib.hid hw
          replace hnm := Lib.hid hnm
          replace hs := Lib.hid hs
          replace ho := Lib.hid ho
          replace hx := Lib.hid hx
          replace i1 := Lib.hid i1
          replace hv := Lib.hid hv
          replace hnew := Lib.hid hnew
          replace hf := Lib.hid hf
          replace hB := Lib.hid hB
          replace hCi' := Lib.hid hCi'
          go_enter Try.func30, Try.ntmps30
          go_wp2_with fail
          refine (ca.out _ h.out).mono ?_
          rintro e w1 ⟨rfl, rfl⟩
          dsimp only
          go_wp2_with fail
          refine (cl.out _).mono ?_
          rintro e w3 ⟨rfl, hmm⟩
          dsimp only
          replace hcell : w3.cell? ⟨q, 0, none⟩ = some (.slice (some ⟨g, 0, none⟩) C.length c) := hmm.cell_some hcell (fun h => h)
          replace hmm := Lib.hid hmm
          clear y1 y2 y3 y4
          go_wp2_with (at_builtin; go_loud (refine copyA rfl (.const (.slice none 0 0)) (.tmp 49) rfl rfl rfl (Rd.mod0 hrd.out hmm.out) hl ?_; intro A' c' w5 ho5 hm5 hf5; obtain ⟨g5, cur5, rfl, _⟩ := Ow.form ho5 (show 0 < C.length by omega); have hq5 := (hq.out.mod hmm.out (fun h => h)).mod hm5 (fun h => h); have u1 : w5.cell? ⟨q, 0, none⟩ = some (.slice (some ⟨g, 0, none⟩) C.length c) := hq5.cell_ rfl; have u2 : w5.frozen? ⟨q, 0, none⟩ = false := hq5.frozen 0; have u3 : w5.frozen? ⟨g5, i*4 + 1, none⟩ = false := Ow.free ho5 rfl _; have u4 : w5.cell? ⟨g5, i*4 + 1, none⟩ = (acs C)[i*4 + 1]? := Ow.cell_ ho5 rfl _ (by omega); rw [acs_at_h _ _ hi, hCi'.out] at u4; have u5 : g5 ≠ q := fun e => Ow.ne_blk ho5 hq5 (by decide) ⟨_, rfl, e⟩; have u6 := hq5.lt; have u7 := World.block_lt_of_cell? w5 _ u4; replace ho5 := Lib.hid ho5; replace hm5 := Lib.hid hm5; replace hf5 := Lib.hid hf5; replace hq5 := Lib.hid hq5))
          go_ret
          have e1 := acs_set_h C i hi v
          rw [hCi'.out] at e1
          have hfin : RefAt ((w5.setCell ⟨q, 0, none⟩ (.slice (some ⟨g5, 0, none⟩) C.length c')).setCell ⟨g5, i*4 + 1, none⟩ (.int .i64 v)) q B (C.set i { a with h := v }) := by
            refine ⟨some ⟨g5, 0, none⟩, c', ?_, ?_, ?_⟩
            · rw [List.length_set]
              exact (hq5.out.set_ 0 _).far (fun e => u5 e.symm) _
            · rw [List.length_set]
              unfold OwA
              rw [← e1]
              exact Ow.set_ (Ow.mod ho5.out ((Mod.refl (· = q) w5).setCell (.inl rfl) _) (by rintro k ⟨a, ha, rfl⟩; cases ha; exact u5)) rfl _ _
            · rintro k ⟨a, ha, rfl⟩
              have := hf5.out a ha
              have := hmm.out.size
              have := hB.out
              omega
          refine ⟨rfl, ?_, ?_⟩
          · rw [hnew.out]; exact hfin
          · refine (((hmm.out.trans hm5.out).any (· = q)).setCell (.inl rfl) _).setCell (.inr ?_) _
            have h7 : w3.heap.size ≤ g5 := hf5.out _ rfl
            have h8 := hmm.out.size
            show w.heap.size ≤ g5
            omega
set_option maxRecDepth 100000 in
set_option maxHeartbeats 4000000 in
theorem raside_ok (w : World) (q B : Nat) (C : List Ac) (s : List UInt8) (x : Int) (h : RefAt w q B C) (hs : SortedC C) (ho : OkC C) (hx : I64 x) (hB : B ≤ w.heap.size) :
    Calls Try.prog 32 #[.pointer (some ⟨q, 0, none⟩), .string (txt s), .int .i64 x] w (RfPost w q B (turnR C s x (asideA x))) := by
  have hl : C.length ≤ 1000 := by have := ho.2; omega
  unfold turnR
  cases hg : getC C s with
  | none =>
    have ca := Lib.hid (fun W (h : RefAt W q B C) => rat_none W q B C s h hl hg)
    replace h := Lib.hid h
    replace hg := Lib.hid hg
    replace hs := Lib.hid hs
    replace ho := Lib.hid ho
    replace hx := Lib.hid hx
    go_enter Try.func32, Try.ntmps32
    go_wp2_with fail
    refine (ca.out _ h.out).mono ?_
    rintro e w1 ⟨rfl, rfl⟩
    dsimp only
    go_wp2_with fail
    go_ret
    exact ⟨rfl, h.out, Mod.refl _ _⟩
  | some a =>
    obtain ⟨i, hst, hget⟩ := stands_of hg
    have hw := ho.wf a (getC_mem hg)
    have hnm := getC_name hg
    have ca := Lib.hid (fun W (h : RefAt W q B C) => rat_some W q B C s i h hl hst)
    have cl := Lib.hid (fun W => (radd_ok W a.s x hw.2.1 hx).mono (fun e w' hp => SPost.act hp))
    have cf := Lib.hid (fun W => rfree_ok W a x hw hx)
    dsimp only
    have key : ∀ (b : Ac), b.n = a.n → setC C b = C.set i b := fun b hb => by
      obtain ⟨hi, hn, _⟩ := hst
      exact set_at hs hi (by rw [hn, hb, hnm])
    have hCi : ∀ hi : i < C.length, C[i] = a := fun hi => by rw [List.getElem?_eq_getElem hi] at hget; injection hget
    unfold APost at cl
    unfold asideA
    dsimp only
    cases i1 : inI (a.s + x) with
    | false =>
      rw [act_no i1] at cl ⊢
      obtain ⟨g, c, hcell, hrd, hq, hi, y1, y2, y3, y4⟩ := h.at_ hget
      rw [if_pos (by simp)]
      replace h := Lib.hid h
      replace hg := Lib.hid hg
      replace hrd := Lib.hid hrd
      replace hq := Lib.hid hq
      replace hst := Lib.hid hst
      replace hget := Lib.hid hget
      replace key := Lib.hid key
      replace hCi := Lib.hid hCi
      replace hw := Lib.hid hw
      replace hnm := Lib.hid hnm
      replace hs := Lib.hid hs
      replace ho := Lib.hid ho
      replace hx := Lib.hid hx
      replace i1 := Lib.hid i1
      go_enter Try.func32, Try.ntmps32
      go_wp2_with fail
      refine (ca.out _ h.out).mono ?_
      rintro e w1 ⟨rfl, rfl⟩
      dsimp only
      go_wp2_with fail
      refine (cl.out _).mono ?_
      rintro e w2 ⟨rfl, hm2⟩
      dsimp only
      replace hm2 := Lib.hid hm2
      go_wp2_with fail
      go_ret
      exact ⟨rfl, h.out.mod0 hm2.out, hm2.out.any _⟩
    | true =>
      rw [act_yes i1] at cl ⊢
      dsimp only at cl ⊢
      obtain ⟨v, hv⟩ : ∃ v, a.s + x = v := ⟨_, rfl⟩
      rw [hv] at cl ⊢
      rw [if_neg (by simp)]
      have hnew := key { a with s := v } rfl
      by_cases hf : 0 < x ∧ freeB a x = false
      · rw [if_pos hf]
        obtain ⟨g, c, hcell, hrd, hq, hi, y1, y2, y3, y4⟩ := h.at_ hget
        obtain ⟨hf1, hf2⟩ := hf
        rw [hf2] at cf
        have d1 : decide (0 < x) = true := decide_eq_true hf1
        replace h := Lib.hid h
        replace hg := Lib.hid hg
        replace hrd := Lib.hid hrd
        replace hq := Lib.hid hq
        replace hst := Lib.hid hst
        replace hget := Lib.hid hget
        replace key := Lib.hid key
        replace hCi := Lib.hid hCi
        replace hw := Lib.hid hw
        replace hnm := Lib.hid hnm
        replace hs := Lib.hid hs
        replace ho := Lib.hid ho
        replace hx := Lib.hid hx
        replace i1 := Lib.hid i1
        replace hv := Lib.hid hv
        replace hnew := Lib.hid hnew
        replace hf2 := Lib.hid hf2
        go_enter Try.func32, Try.ntmps32
        go_wp2_with fail
        refine (ca.out _ h.out).mono ?_
        rintro e w1 ⟨rfl, rfl⟩
        dsimp only
        go_wp2_with fail
        refine (cl.out _).mono ?_
        rintro e w2 ⟨rfl, hm2⟩
        dsimp only
        obtain ⟨z0, z1, z2, z3, z4⟩ : w2.cell? ⟨q, 0, none⟩ = some (.slice (some ⟨g, 0, none⟩) C.length c) ∧ w2.cell? ⟨g, i*4, none⟩ = some (.string (txt a.n)) ∧ w2.cell? ⟨g, i*4 + 1, none⟩ = some (.int .i64 a.h) ∧ w2.cell? ⟨g, i*4 + 2, none⟩ = some (.int .i64 a.s) ∧ w2.cell? ⟨g, i*4 + 3, none⟩ = some (.int .i64 a.l) := ⟨hm2.cell_some hcell (fun h => h), hm2.cell_some y1 (fun h => h), hm2.cell_some y2 (fun h => h), hm2.cell_some y3 (fun h => h), hm2.cell_some y4 (fun h => h)⟩
        replace hm2 := Lib.hid hm2
        clear hcell y1 y2 y3 y4
        go_wp2_with fail
        refine (cf.out _).mono ?_
        rintro e w3 ⟨rfl, hm3⟩
        dsimp only
        have hmm := Lib.hid (hm2.out.trans hm3)
        clear hm3 hm2
        go_wp2_with fail
        go_ret
        exact ⟨rfl, h.out.mod0 hmm.out, hmm.out.any _⟩
      · rw [if_neg hf]
        obtain ⟨g, c, hcell, hrd, hq, hi, y1, y2, y3, y4⟩ := h.at_ hget
        by_cases hneg : v < 0
        · rw [if_pos hneg]
          have d2 : decide (v < 0) = true := decide_eq_true hneg
          have hneg0 := hneg
          clear hneg
          rcases (show (0 < x ∧ freeB a x = true) ∨ ¬ 0 < x by
            by_cases h0 : 0 < x
            · cases h1 : freeB a x with
              | true => exact .inl ⟨h0, rfl⟩
              | false => exact absurd ⟨h0, h1⟩ hf
            · exact .inr h0) with ⟨hf1, hf2⟩ | hf1
          · rw [hf2] at cf
            have d1 : decide (0 < x) = true := decide_eq_true hf1
            have hql := hq.lt
            have hCi' := hCi hi
            replace h := Lib.hid h
            replace hg := Lib.hid hg
            replace hrd := Lib.hid hrd
            replace hq := Lib.hid hq
            replace hst := Lib.hid hst
            replace hget := Lib.hid hget
            replace key := Lib.hid key
            replace hCi := Lib.hid hCi
            replace hw := Lib.hid hw
            replace hnm := Lib.hid hnm
            replace hs := Lib.hid hs
            replace ho := Lib.hid ho
            replace hx := Lib.hid hx
            replace i1 := Lib.hid i1
            replace hv := Lib.hid hv
            replace hnew := Lib.hid hnew
            replace hf2 := Lib.hid hf2
            replace hf := Lib.hid hf
            replace hB := Lib.hid hB
            replace hCi' := Lib.hid hCi'
            replace hneg0 := Lib.hid hneg0
            go_enter Try.func32, Try.ntmps32
            go_wp2_with fail
            refine (ca.out _ h.out).mono ?_
            rintro e w1 ⟨rfl, rfl⟩
            dsimp only
            go_wp2_with fail
            refine (cl.out _).mono ?_
            rintro e w2 ⟨rfl, hm2⟩
            dsimp only
            obtain ⟨z0, z1, z2, z3, z4⟩ : w2.cell? ⟨q, 0, none⟩ = some (.slice (some ⟨g, 0, none⟩) C.length c) ∧ w2.cell? ⟨g, i*4, none⟩ = some (.string (txt a.n)) ∧ w2.cell? ⟨g, i*4 + 1, none⟩ = some (.int .i64 a.h) ∧ w2.cell? ⟨g, i*4 + 2, none⟩ = some (.int .i64 a.s) ∧ w2.cell? ⟨g, i*4 + 3, none⟩ = some (.int .i64 a.l) := ⟨hm2.cell_some hcell (fun h => h), hm2.cell_some y1 (fun h => h), hm2.cell_some y2 (fun h => h), hm2.cell_some y3 (fun h => h), hm2.cell_some y4 (fun h => h)⟩
            replace hm2 := Lib.hid hm2
            clear hcell y1 y2 y3 y4
            go_wp2_with fail
            refine (cf.out _).mono ?_
            rintro e w3 ⟨rfl, hm3⟩
            dsimp only
            have hcell : w3.cell? ⟨q, 0, none⟩ = some (.slice (some ⟨g, 0, none⟩) C.length c) := hm3.cell_some z0 (fun h => h)
            have hmm := Lib.hid (hm2.out.trans hm3)
            clear hm3 hm2 z0 z1 z2 z3 z4
            go_wp2_with fail
            go_ret
            exact ⟨rfl, h.out.mod0 hmm.out, hmm.out.any _⟩
          · have d1 : decide (0 < x) = false := decide_eq_false hf1
            have hql := hq.lt
            have hCi' := hCi hi
            replace h := Lib.hid h
            replace hg := Lib.hid hg
            replace hrd := Lib.hid hrd
            replace hq := Lib.hid hq
            replace hst := Lib.hid hst
            replace hget := Lib.hid hget
            replace key := Lib.hid key
            replace hCi := Lib.hid hCi
            replace hw := Lib.hid hw
            replace hnm := Lib.hid hnm
            replace hs := Lib.hid hs
            replace ho := Lib.hid ho
            replace hx := Lib.hid hx
            replace i1 := Lib.hid i1
            replace hv := Lib.hid hv
            replace hnew := Lib.hid hnew
            replace hf := Lib.hid hf
            replace hB := Lib.hid hB
            replace hCi' := Lib.hid hCi'
            replace hneg0 := Lib.hid hneg0
            go_enter Try.func32, Try.ntmps32
            go_wp2_with fail
            refine (ca.out _ h.out).mono ?_
            rintro e w1 ⟨rfl, rfl⟩
            dsimp only
            go_wp2_with fail
            refine (cl.out _).mono ?_
            rintro e w3 ⟨rfl, hmm⟩
            dsimp only
            replace hcell : w3.cell? ⟨q, 0, none⟩ = some (.slice (some ⟨g, 0, none⟩) C.length c) := hmm.cell_some hcell (fun h => h)
            replace hmm := Lib.hid hmm
            clear y1 y2 y3 y4
            go_wp2_with fail
            go_ret
            exact ⟨rfl, h.out.mod0 hmm.out, hmm.out.any _⟩
        rw [if_neg hneg]
        have d2 : decide (v < 0) = false := decide_eq_false hneg
        have hneg0 := hneg
        clear hneg
        rcases (show (0 < x ∧ freeB a x = true) ∨ ¬ 0 < x by
          by_cases h0 : 0 < x
          · cases h1 : freeB a x with
            | true => exact .inl ⟨h0, rfl⟩
            | false => exact absurd ⟨h0, h1⟩ hf
          · exact .inr h0) with ⟨hf1, hf2⟩ | hf1
        · rw [hf2] at cf
          have d1 : decide (0 < x) = true := decide_eq_true hf1
          have hql := hq.lt
          have hCi' := hCi hi
          replace h := Lib.hid h
          replace hg := Lib.hid hg
          replace hrd := Lib.hid hrd
          replace hq := Lib.hid hq
          replace hst := Lib.hid hst
          replace hget := Lib.hid hget
          replace key := Lib.hid key
          replace hCi := Lib.hid hCi
          replace hw := Lib.hid hw
          replace hnm := Lib.hid hnm
          replace hs := Lib.hid hs
          replace ho := Lib.hid ho
          replace hx := Lib.hid hx
          replace i1 := Lib.hid i1
          replace hv := Lib.hid hv
          replace hnew := Lib.hid hnew
          replace hf2 := Lib.hid hf2
          replace hf := Lib.hid hf
          replace hB := Lib.hid hB
          replace hCi' := Lib.hid hCi'
          go_enter Try.func32, Try.ntmps32
          go_wp2_with fail
          refine (ca.out _ h.out).mono ?_
          rintro e w1 ⟨rfl, rfl⟩
          dsimp only
          go_wp2_with fail
          refine (cl.out _).mono ?_
          rintro e w2 ⟨rfl, hm2⟩
          dsimp only
          obtain ⟨z0, z1, z2, z3, z4⟩ : w2.cell? ⟨q, 0, none⟩ = some (.slice (some ⟨g, 0, none⟩) C.length c) ∧ w2.cell? ⟨g, i*4, none⟩ = some (.string (txt a.n)) ∧ w2.cell? ⟨g, i*4 + 1, none⟩ = some (.int .i64 a.h) ∧ w2.cell? ⟨g, i*4 + 2, none⟩ = some (.int .i64 a.s) ∧ w2.cell? ⟨g, i*4 + 3, none⟩ = some (.int .i64 a.l) := ⟨hm2.cell_some hcell (fun h => h), hm2.cell_some y1 (fun h => h), hm2.cell_some y2 (fun h => h), hm2.cell_some y3 (fun h => h), hm2.cell_some y4 (fun h => h)⟩
          replace hm2 := Lib.hid hm2
          clear hcell y1 y2 y3 y4
          go_wp2_with fail
          refine (cf.out _).mono ?_
          rintro e w3 ⟨rfl, hm3⟩
          dsimp only
          have hcell : w3.cell? ⟨q, 0, none⟩ = some (.slice (some ⟨g, 0, none⟩) C.length c) := hm3.cell_some z0 (fun h => h)
          have hmm := Lib.hid (hm2.out.trans hm3)
          clear hm3 hm2 z0 z1 z2 z3 z4
          go_wp2_with (at_builtin; go_loud (refine copyA rfl (.const (.slice none 0 0)) (.tmp 51) rfl rfl rfl (Rd.mod0 hrd.out hmm.out) hl ?_; intro A' c' w5 ho5 hm5 hf5; obtain ⟨g5, cur5, rfl, _⟩ := Ow.form ho5 (show 0 < C.length by omega); have hq5 := (hq.out.mod hmm.out (fun h => h)).mod hm5 (fun h => h); have u1 : w5.cell? ⟨q, 0, none⟩ = some (.slice (some ⟨g, 0, none⟩) C.length c) := hq5.cell_ rfl; have u2 : w5.frozen? ⟨q, 0, none⟩ = false := hq5.frozen 0; have u3 : w5.frozen? ⟨g5, i*4 + 2, none⟩ = false := Ow.free ho5 rfl _; have u4 : w5.cell? ⟨g5, i*4 + 2, none⟩ = (acs C)[i*4 + 2]? := Ow.cell_ ho5 rfl _ (by omega); rw [acs_at_s _ _ hi, hCi'.out] at u4; have u5 : g5 ≠ q := fun e => Ow.ne_blk ho5 hq5 (by decide) ⟨_, rfl, e⟩; have u6 := hq5.lt; have u7 := World.block_lt_of_cell? w5 _ u4; replace ho5 := Lib.hid ho5; replace hm5 := Lib.hid hm5; replace hf5 := Lib.hid hf5; replace hq5 := Lib.hid hq5))
          go_ret
          have e1 := acs_set_s C i hi v
          rw [hCi'.out] at e1
          have hfin : RefAt ((w5.setCell ⟨q, 0, none⟩ (.slice (some ⟨g5, 0, none⟩) C.length c')).setCell ⟨g5, i*4 + 2, none⟩ (.int .i64 v)) q B (C.set i { a with s := v }) := by
            refine ⟨some ⟨g5, 0, none⟩, c', ?_, ?_, ?_⟩
            · rw [List.length_set]
              exact (hq5.out.set_ 0 _).far (fun e => u5 e.symm) _
            · rw [List.length_set]
              unfold OwA
              rw [← e1]
              exact Ow.set_ (Ow.mod ho5.out ((Mod.refl (· = q) w5).setCell (.inl rfl) _) (by rintro k ⟨a, ha, rfl⟩; cases ha; exact u5)) rfl _ _
            · rintro k ⟨a, ha, rfl⟩
              have := hf5.out a ha
              have := hmm.out.size
              have := hB.out
              omega
          refine ⟨rfl, ?_, ?_⟩
          · rw [hnew.out]; exact hfin
          · refine (((hmm.out.trans hm5.out).any (· = q)).setCell (.inl rfl) _).setCell (.inr ?_) _
            have h7 : w3.heap.size ≤ g5 := hf5.out _ rfl
            have h8 := hmm.out.size
            show w.heap.size ≤ g5
            omega
        · have d1 : decide (0 < x) = false := decide_eq_false hf1
          have hql := hq.lt
          have hCi' := hCi hi
          replace h := Lib.hid h
          replace hg := Lib.hid hg
          replace hrd := Lib.hid hrd
          replace hq := Lib.hid hq
          replace hst := Lib.hid hst
          replace hget := Lib.hid hget
          replace key := Lib.hid key
          replace hCi := Lib.hid hCi
          replace hw := Lib.hid hw
          replace hnm := Lib.hid hnm
          replace hs := Lib.hid hs
          replace ho := Lib.hid ho
          replace hx := Lib.hid hx
          replace i1 := Lib.hid i1
          replace hv := Lib.hid hv
          replace hnew := Lib.hid hnew
          replace hf := Lib.hid hf
          replace hB := Lib.hid hB
          replace hCi' := Lib.hid hCi'
          go_enter Try.func32, Try.ntmps32
          go_wp2_with fail
          refine (ca.out _ h.out).mono ?_
          rintro e w1 ⟨rfl, rfl⟩
          dsimp only
          go_wp2_with fail
          refine (cl.out _).mono ?_
          rintro e w3 ⟨rfl, hmm⟩
          dsimp only
          replace hcell : w3.cell? ⟨q, 0, none⟩ = some (.slice (some ⟨g, 0, none⟩) C.length c) := hmm.cell_some hcell (fun h => h)
          replace hmm := Lib.hid hmm
          clear y1 y2 y3 y4
          go_wp2_with (at_builtin; go_loud (refine copyA rfl (.const (.slice none 0 0)) (.tmp 51) rfl rfl rfl (Rd.mod0 hrd.out hmm.out) hl ?_; intro A' c' w5 ho5 hm5 hf5; obtain ⟨g5, cur5, rfl, _⟩ := Ow.form ho5 (show 0 < C.length by omega); have hq5 := (hq.out.mod hmm.out (fun h => h)).mod hm5 (fun h => h); have u1 : w5.cell? ⟨q, 0, none⟩ = some (.slice (some ⟨g, 0, none⟩) C.length c) := hq5.cell_ rfl; have u2 : w5.frozen? ⟨q, 0, none⟩ = false := hq5.frozen 0; have u3 : w5.frozen? ⟨g5, i*4 + 2, none⟩ = false := Ow.free ho5 rfl _; have u4 : w5.cell? ⟨g5, i*4 + 2, none⟩ = (acs C)[i*4 + 2]? := Ow.cell_ ho5 rfl _ (by omega); rw [acs_at_s _ _ hi, hCi'.out] at u4; have u5 : g5 ≠ q := fun e => Ow.ne_blk ho5 hq5 (by decide) ⟨_, rfl, e⟩; have u6 := hq5.lt; have u7 := World.block_lt_of_cell? w5 _ u4; replace ho5 := Lib.hid ho5; replace hm5 := Lib.hid hm5; replace hf5 := Lib.hid hf5; replace hq5 := Lib.hid hq5))
          go_ret
          have e1 := acs_set_s C i hi v
          rw [hCi'.out] at e1
          have hfin : RefAt ((w5.setCell ⟨q, 0, none⟩ (.slice (some ⟨g5, 0, none⟩) C.length c')).setCell ⟨g5, i*4 + 2, none⟩ (.int .i64 v)) q B (C.set i { a with s := v }) := by
            refine ⟨some ⟨g5, 0, none⟩, c', ?_, ?_, ?_⟩
            · rw [List.length_set]
              exact (hq5.out.set_ 0 _).far (fun e => u5 e.symm) _
            · rw [List.length_set]
              unfold OwA
              rw [← e1]
              exact Ow.set_ (Ow.mod ho5.out ((Mod.refl (· = q) w5).setCell (.inl rfl) _) (by rintro k ⟨a, ha, rfl⟩; cases ha; exact u5)) rfl _ _
            · rintro k ⟨a, ha, rfl⟩
              have := hf5.out a ha
              have := hmm.out.size
              have := hB.out
              omega
          refine ⟨rfl, ?_, ?_⟩
          · rw [hnew.out]; exact hfin
          · refine (((hmm.out.trans hm5.out).any (· = q)).setCell (.inl rfl) _).setCell (.inr ?_) _
            have h7 : w3.heap.size ≤ g5 := hf5.out _ rfl
            have h8 := hmm.out.size
            show w.heap.size ≤ g5
            omega
end Go.Proofs.Ytaohgefpnndjcaa
/-
  The reference's Open.
-/
namespace Go.Proofs.Ytaohgefpnndjcaa
set_option linter.unusedVariables false
open Go.RowKit
theorem step_appA {w : World} {ops : Array Oper} {o : Oper} {a : Act} {K : Act → World → Prop} {Q : Exit → Act → World → Prop} {E : Prop} (hgd : o.guard = none) (s x : Operand)
    (ho : o.op = .call { callee := .builtin .append, args := #[s, x], argTypes := #[22, 22] })
    {A : Option Addr} {n c : Nat} {xs : List Ac} (hs : a.eval s = .slice A n c) (hown : OwA w A n c xs)
    {S : Option Addr} {m d : Nat} {news : List Ac} (hx : a.eval x = .slice S m d) (hr : RdA w S m news) (hb : (n + m) * 40 ≤ 140737488355328)
    (h : ∀ A' c' w', OwA w' A' (n + m) c' (xs ++ news) → Mod (fp A) w w' → (A' = A ∨ A' = some ⟨w.heap.size, 0, none⟩) → K (a.put o.dst (.slice A' (n + m) c')) w') :
    if Region.wanted o (yielded ops a.tmps) = true then Oper.wp Try.prog o a w K Q else E := by
  obtain ⟨i0, hi, hz0, hz1, hz2⟩ := info_parts acinfo
  refine step_append_ow hgd s x 22 ho 46 i0 _ 4 40 Try.underlying22 hi hz0 hz1 hz2 rfl (by omega) A n c (acs xs) hs hown S m d (acs news) hx hr (acs_one _) (by omega) (by omega) ?_
  intro A' c' w' h1
  rw [← acs_append] at h1
  exact h A' c' w' h1
theorem step_copyA {w : World} {ops : Array Oper} {o : Oper} {a : Act} {K : Act → World → Prop} {Q : Exit → Act → World → Prop} {E : Prop} (hgd : o.guard = none) (s x : Operand)
    (ho : o.op = .call { callee := .builtin .append, args := #[s, x], argTypes := #[22, 22] })
    (hs : a.eval s = .slice none 0 0) {S : Option Addr} {m d : Nat} {news : List Ac} (hx : a.eval x = .slice S m d) (hr : RdA w S m news) (hb : m ≤ 1000)
    (h : ∀ A' c' w', OwA w' A' m c' news → Mod none_ w w' → Fresh w A' → K (a.put o.dst (.slice A' m c')) w') :
    if Region.wanted o (yielded ops a.tmps) = true then Oper.wp Try.prog o a w K Q else E := by
  refine step_appA hgd s x ho hs (show OwA w none 0 0 [] from Ow.nil _ _ _) hx hr (by omega) ?_
  intro A' c' w' h1 h2 h3
  rw [Nat.zero_add] at h1 ⊢
  refine h A' c' w' h1 (h2.mono ?_) ?_
  · rintro i ⟨a, h, _⟩; cases h
  · rcases h3 with rfl | rfl
    · intro a ha; cases ha
    · intro a ha; cases ha; exact Nat.le_refl _
theorem rda_take {w : World} {A : Option Addr} {n k : Nat} {C : List Ac} (h : RdA w A n C) (hk : k ≤ n) : RdA w A k (C.take k) := by
  have := Rd.take_ h hk
  have e : (acs C).take (k * 4) = acs (C.take k) := by
    have hl := h.len
    have h2 : acs C = acs (C.take k) ++ acs (C.drop k) := by rw [← acs_append, List.take_append_drop]
    rw [h2]
    exact List.take_left' (by rw [acs_length, List.length_take]; congr 1; omega)
  rwa [e] at this
theorem rda_drop {w : World} {A : Option Addr} {n k c : Nat} {C : List Ac} (h : RdA w A n C) (hk : k ≤ n) (hc : n ≤ c) : RdA w (if c = k then A else A.map (·.add (k * 4))) (n - k) (C.drop k) := by
  have := Rd.drop_ h hk hc
  have e : (acs C).drop (k * 4) = acs (C.drop k) := by
    have hl := h.len
    have h2 : acs C = acs (C.take k) ++ acs (C.drop k) := by rw [← acs_append, List.take_append_drop]
    rw [h2]
    exact List.drop_left' (by rw [acs_length, List.length_take]; congr 1; omega)
  rwa [e] at this
theorem open_end {w w3 : World} {q B k c3 : Nat} {A A3 : Option Addr} {n c : Nat} {C : List Ac} {a : Ac} (hI : insC a C = C.take k ++ a :: C.drop k) (hq : Blk w3 q 36 #[.slice A n c]) (ho : OwA w3 A3 (k + 1 + (C.length - k)) c3 (C.take k ++ [a] ++ C.drop k)) (hm : Mod none_ w w3) (hf : Fresh w A3) (hk : k ≤ C.length) (hB : B ≤ w.heap.size) :
    RfPost w q B (insC a C, 0) (.returned (.int .i64 0)) (w3.setCell ⟨q, 0, none⟩ (.slice A3 (k + 1 + (C.length - k)) c3)) := by
  have hl : (insC a C).length = k + 1 + (C.length - k) := by rw [insC_len]; omega
  have he : C.take k ++ [a] ++ C.drop k = insC a C := by rw [hI]; simp
  rw [he] at ho
  have hne : ∀ i, fp A3 i → ¬ i = q := fun i hi e => Ow.ne_blk ho hq (by decide) (by rw [← e]; exact hi)
  refine ⟨rfl, ⟨A3, c3, ?_, ?_, ?_⟩, (hm.any (· = q)).setCell (.inl rfl) _⟩
  · dsimp only
    rw [hl]; exact hq.set_ 0 _
  · dsimp only
    rw [hl]; exact Ow.mod ho ((Mod.refl (· = q) w3).setCell (.inl rfl) _) hne
  · rintro i ⟨b, hb, rfl⟩
    have := hf b hb
    omega
set_option maxRecDepth 100000 in
set_option maxHeartbeats 4000000 in
theorem ropen_ok (w : World) (q B : Nat) (C : List Ac) (s : List UInt8) (x : Int) (h : RefAt w q B C) (hs : SortedC C) (ho : OkC C) (hz : (txt s).size ≤ maxLen) (hB : B ≤ w.heap.size) :
    Calls Try.prog 28 #[.pointer (some ⟨q, 0, none⟩), .string (txt s), .int .i64 x] w (RfPost w q B (openR C s x)) := by
  have hl : C.length ≤ 12 := ho.2
  have cn := Lib.hid (fun W => rname_ok W (txt s) hz)
  rw [show (txt s).data.toList = s from rfl] at cn
  clear hz
  unfold openR
  by_cases hbad : nameB s = false ∨ x < 0
  · rw [if_pos hbad]
    cases hn : nameB s with
    | false =>
      rw [hn] at cn
      replace h := Lib.hid h
      replace hs := Lib.hid hs
      replace ho := Lib.hid ho
      replace hn := Lib.hid hn
      replace hbad := Lib.hid hbad
      go_enter Try.func28, Try.ntmps28
      go_wp2_with fail
      refine (cn.out _).mono ?_
      rintro e w1 ⟨rfl, rfl⟩
      dsimp only
      go_wp2_with fail
      go_ret
      exact ⟨rfl, h.out, Mod.refl _ _⟩
    | true =>
      rw [hn] at cn hbad
      have hx : x < 0 := by rcases hbad with h | h; cases h; exact h
      have d1 : decide (x < 0) = true := decide_eq_true hx
      replace h := Lib.hid h
      replace hs := Lib.hid hs
      replace ho := Lib.hid ho
      replace hn := Lib.hid hn
      replace hbad := Lib.hid hbad
      go_enter Try.func28, Try.ntmps28
      go_wp2_with fail
      refine (cn.out _).mono ?_
      rintro e w1 ⟨rfl, rfl⟩
      dsimp only
      go_wp2_with fail
      go_ret
      exact ⟨rfl, h.out, Mod.refl _ _⟩
  · rw [if_neg hbad]
    have hn : nameB s = true := by
      cases hn : nameB s with
      | true => rfl
      | false => exact absurd (.inl hn) hbad
    have hx : ¬ x < 0 := fun h => hbad (.inr h)
    have d1 : decide (x < 0) = false := decide_eq_false hx
    rw [hn] at cn
    clear hbad
    cases hg : getC C s with
    | some a =>
      rw [if_pos (show (some a).isSome = true from rfl)]
      obtain ⟨i, hst, _⟩ := stands_of hg
      have ca := Lib.hid (fun W (h : RefAt W q B C) => rat_some W q B C s i h (by omega) hst)
      have d2 : decide ((0 : Int) ≤ (i : Int)) = true := decide_eq_true (by omega)
      replace h := Lib.hid h
      replace hs := Lib.hid hs
      replace ho := Lib.hid ho
      replace hn := Lib.hid hn
      replace hst := Lib.hid hst
      replace hg := Lib.hid hg
      replace hx := Lib.hid hx
      go_enter Try.func28, Try.ntmps28
      go_wp2_with fail
      refine (cn.out _).mono ?_
      rintro e w1 ⟨rfl, rfl⟩
      dsimp only
      go_wp2_with fail
      refine (ca.out _ h.out).mono ?_
      rintro e w1 ⟨rfl, rfl⟩
      dsimp only
      go_wp2_with fail
      go_ret
      exact ⟨rfl, h.out, Mod.refl _ _⟩
    | none =>
      rw [if_neg (by simp)]
      have ca := Lib.hid (fun W (h : RefAt W q B C) => rat_none W q B C s h (by omega) hg)
      by_cases h12 : C.length = 12
      · rw [if_pos h12]
        obtain ⟨A, c, hcell, _, _⟩ := h.cell
        rw [h12] at hcell
        replace h := Lib.hid h
        replace hs := Lib.hid hs
        replace ho := Lib.hid ho
        replace hn := Lib.hid hn
        replace hg := Lib.hid hg
        replace hx := Lib.hid hx
        replace h12 := Lib.hid h12
        go_enter Try.func28, Try.ntmps28
        go_wp2_with fail
        refine (cn.out _).mono ?_
        rintro e w1 ⟨rfl, rfl⟩
        dsimp only
        go_wp2_with fail
        refine (ca.out _ h.out).mono ?_
        rintro e w1 ⟨rfl, rfl⟩
        dsimp only
        go_wp2_with fail
        go_ret
        exact ⟨rfl, h.out, Mod.refl _ _⟩
      · rw [if_neg h12]
        have hl12 : C.length < 12 := by omega
        obtain ⟨A, c, hq, how, hfa⟩ := h
        have hcell : w.cell? ⟨q, 0, none⟩ = some (.slice A C.length c) := hq.cell_ rfl
        have hql := hq.lt
        have hcn : C.length ≤ c := how.2.1
        have hcap := how.2.2.1
        unfold maxLen at hcap
        have hins := fun k => ins_at (a := ⟨s, 0, 0, x⟩) (C := C) (k := k) hs
        have hrd := Lib.hid (fun k (hk : k ≤ C.length) (m : Nat) => ahead_ok (w.drewN m) s (C[k-1]?.getD ⟨[], 0, 0, 0⟩).n (by have := name_len hn; omega) (by
          cases hh : C[k-1]? with
          | none => exact Nat.zero_le _
          | some a => have := ho.nm a (List.mem_of_getElem? hh); simp only [Option.getD_some]; omega))
        have h' : RefAt w q B C := ⟨A, c, hq, how, hfa⟩
        have hnd : C.length ≤ 1000 := by omega
        replace hq := Lib.hid hq
        replace how := Lib.hid how
        replace hfa := Lib.hid hfa
        replace hs := Lib.hid hs
        replace ho := Lib.hid ho
        replace hn := Lib.hid hn
        replace hg := Lib.hid hg
        replace hx := Lib.hid hx
        replace h12 := Lib.hid h12
        replace hins := Lib.hid hins
        replace h' := Lib.hid h'
        go_enter Try.func28, Try.ntmps28
        go_wp2_with fail
        refine (cn.out _).mono ?_
        rintro e w1 ⟨rfl, rfl⟩
        dsimp only
        go_wp2_with fail
        refine (ca.out _ h'.out).mono ?_
        rintro e w1 ⟨rfl, rfl⟩
        dsimp only
        clear cn ca
        go_wp2_with fail
        go_loopw [7] (fun v wr => ∃ k : Nat, v = .int .i64 k ∧ k ≤ C.length ∧ (∀ i (hi : i < C.length), k ≤ i → bytesBefore s C[i].n = true) ∧ ∃ m, wr = w.drewN m) (fun v _ => (intOf v).toNat)
        case atStart => exact ⟨C.length, rfl, by omega, fun i hi h => absurd h (by omega), 0, rfl⟩
        case round =>
          obtain ⟨k, rfl, hk, hall, m, rfl⟩ := hrel
          by_cases hgo : 0 < k ∧ bytesBefore s (C[k-1]?.getD ⟨[], 0, 0, 0⟩).n = true
          · obtain ⟨hk0, hbb⟩ := hgo
            have d3 : decide ((0 : Int) < (k : Int)) = true := decide_eq_true (by omega)
            obtain ⟨j, rfl⟩ : ∃ j, k = j + 1 := ⟨k - 1, by omega⟩
            have hj : j < C.length := by omega
            rw [Nat.add_sub_cancel] at hbb
            have hcl := hrd.out (j + 1) hk m
            rw [Nat.add_sub_cancel, List.getElem?_eq_getElem hj, Option.getD_some] at hcl
            rw [List.getElem?_eq_getElem hj, Option.getD_some] at hbb
            rw [hbb] at hcl
            obtain ⟨g, o, rfl, y1, -, -, -⟩ := rda_get (Ow.rd how.out) hj (by omega)
            have hw1 : wrap64 ((↑(j + 1) : Int) - 1) = (j : Int) := by unfold wrap64; omega
            have hw2 : wrap64 ((j : Int) + 1 - 1) = (j : Int) := by unfold wrap64; omega
            have hnx : ∀ i (hi : i < C.length), j ≤ i → bytesBefore s C[i].n = true := fun i hi h => by
              by_cases e : i = j
              · subst e; exact hbb
              · exact hall i hi (by omega)
            generalize C[j].n = yn at y1 hcl hbb
            replace hall := Lib.hid hall
            replace hbb := Lib.hid hbb
            replace hcl := Lib.hid hcl
            replace hnx := Lib.hid hnx
            go_wp2_with fail
            refine hcl.out.mono ?_
            rintro e w1 ⟨rfl, m2, rfl⟩
            dsimp only
            go_wp2_with fail
            go_roundw
            case rel => exact ⟨j, by go_num, by omega, hnx.out, _, rfl⟩
            case measure => simp [intOf]
          · have hex : (k = 0 ∧ insC ⟨s, 0, 0, x⟩ C = C.take k ++ ⟨s, 0, 0, x⟩ :: C.drop k) ∨ (0 < k ∧ bytesBefore s (C[k-1]?.getD ⟨[], 0, 0, 0⟩).n = false ∧ insC ⟨s, 0, 0, x⟩ C = C.take k ++ ⟨s, 0, 0, x⟩ :: C.drop k) := by
              by_cases hk0 : k = 0
              · exact .inl ⟨hk0, hins.out k hk hall (fun i hi h => absurd h (by omega))⟩
              · have hb : bytesBefore s (C[k-1]?.getD ⟨[], 0, 0, 0⟩).n = false := by
                  cases hb : bytesBefore s (C[k-1]?.getD ⟨[], 0, 0, 0⟩).n with
                  | false => rfl
                  | true => exact absurd ⟨by omega, hb⟩ hgo
                refine .inr ⟨by omega, hb, hins.out k hk hall (fun i hi h => ?_)⟩
                subst h
                rw [Nat.add_sub_cancel, List.getElem?_eq_getElem hi, Option.getD_some] at hb
                exact hb
            have hR := Lib.hid (fun W (h : Mod none_ w W) => Rd.mod0 (Ow.rd how.out) h)
            have hal : ∀ (m : Nat) (o : Obj), ((w.drewN m).alloc o).cell? ⟨q, 0, none⟩ = some (.slice A C.length c) := fun m o => (World.cell?_alloc_lt _ _ _ hql).trans hcell
            have z1 : (0 : Int) ≤ (k : Int) := by omega
            have z2 : (k : Int) ≤ (C.length : Int) := by omega
            have z3 : (C.length : Int) ≤ (c : Int) := by omega
            have z4 : (k : Int) ≤ (c : Int) := by omega
            obtain ⟨mm, hmm⟩ : ∃ W, W = w.drewN m := ⟨_, rfl⟩
            clear hgo mm hmm
            rcases hex with ⟨hk0, hI⟩ | ⟨hk0, hbb, hI⟩
            · have d3 : decide ((0 : Int) < (k : Int)) = false := decide_eq_false (by omega)
              have d4 : decide (0 < k) = false := decide_eq_false (by omega)
              have d5 : ¬ 0 < k := by omega
              replace hall := Lib.hid hall
              replace hI := Lib.hid hI
              replace hk0 := Lib.hid hk0
              go_upto_region 10 with fail
              go_region_law ((first
                | (refine step_copyA (by rfl) (.const (.slice none 0 0)) (.tmp 53) (by rfl) (by rfl) (by rfl) (rda_take (hR.out _ (by first | exact ((Mod.refl none_ w).drewN _).drew | exact ((Mod.refl none_ w).drewN _).drew.alloc _)) hk) (by omega) ?_; intro A1 c1 w1 ho1 h1m hf1; have hm1 : Mod none_ w w1 := Mod.trans (by first | exact ((Mod.refl none_ w).drewN _).drew | exact ((Mod.refl none_ w).drewN _).drew.alloc _) h1m; replace hf1 : Fresh w A1 := hf1.later (Mod.size (F := none_) (by first | exact ((Mod.refl none_ w).drewN _).drew | exact ((Mod.refl none_ w).drewN _).drew.alloc _)); have q1 : w1.cell? ⟨q, 0, none⟩ = some (.slice A C.length c) := hm1.cell_some hcell (fun h => h); have l1 := World.block_lt_of_cell? w1 _ q1; have qa1 : ∀ o, (w1.alloc o).cell? ⟨q, 0, none⟩ = some (.slice A C.length c) := fun o => (World.cell?_alloc_lt _ _ _ l1).trans q1; replace ho1 := Lib.hid ho1; replace h1m := Lib.hid h1m; replace hf1 := Lib.hid hf1; replace hm1 := Lib.hid hm1)
                | (refine step_appA (by rfl) (.tmp 54) (.tmp 58) (by rfl) (by rfl) (Ow.mod0 ho1.out ((Mod.refl none_ w1).alloc _)) (S := some ⟨w1.heap.size, 0, none⟩) (m := 1) (d := 1) (by rfl) (rda_one w1 _ ⟨s, 0, 0, x⟩) (by omega) ?_; intro A2 c2 w2 ho2 h2m hA2; have hm2 : Mod none_ w w2 := Mod.then (hm1.out.alloc _) h2m (fun i hi hf => by (obtain ⟨a, ha, rfl⟩ := hf; have := hf1.out a ha; omega)); have hf2 : Fresh w A2 := Fresh.app hf1.out (Mod.size (F := none_) (hm1.out.alloc _)) hA2; have q2 : w2.cell? ⟨q, 0, none⟩ = some (.slice A C.length c) := hm2.cell_some hcell (fun h => h); have l2 := World.block_lt_of_cell? w2 _ q2; replace ho2 := Lib.hid ho2; replace h2m := Lib.hid h2m; replace hA2 := Lib.hid hA2; replace hf2 := Lib.hid hf2; replace hm2 := Lib.hid hm2)
                | (refine step_appA (by rfl) (.tmp 54) (.tmp 58) (by rfl) (by rfl) ho1.out (S := some ⟨w.heap.size, 0, none⟩) (m := 1) (d := 1) (by rfl) (Rd.mod0 (rda_one (w.drewN m).drew _ ⟨s, 0, 0, x⟩) h1m.out) (by omega) ?_; intro A2 c2 w2 ho2 h2m hA2; have hm2 : Mod none_ w w2 := Mod.then hm1.out h2m (fun i hi hf => by (obtain ⟨a, ha, rfl⟩ := hf; have := hf1.out a ha; omega)); have hf2 : Fresh w A2 := Fresh.app hf1.out (Mod.size (F := none_) hm1.out) hA2; have q2 : w2.cell? ⟨q, 0, none⟩ = some (.slice A C.length c) := hm2.cell_some hcell (fun h => h); have l2 := World.block_lt_of_cell? w2 _ q2; replace ho2 := Lib.hid ho2; replace h2m := Lib.hid h2m; replace hA2 := Lib.hid hA2; replace hf2 := Lib.hid hf2; replace hm2 := Lib.hid hm2)
                | (refine step_appA (by rfl) (.tmp 59) (.tmp 65) (by rfl) (by rfl) ho2.out (by rfl) (rda_drop (hR.out _ hm2.out) hk hcn) (by omega) ?_; intro A3 c3 w3 ho3 h3m hA3; have hm3 : Mod none_ w w3 := Mod.then hm2.out h3m (fun i hi hf => by (obtain ⟨a, ha, rfl⟩ := hf; have := hf2.out a ha; omega)); have hf3 : Fresh w A3 := Fresh.app hf2.out hm2.out.size hA3; have hq3 := hq.out.mod hm3 (fun h => h); have q3 : w3.cell? ⟨q, 0, none⟩ = some (.slice A C.length c) := hq3.cell_ rfl; have z3 : w3.frozen? ⟨q, 0, none⟩ = false := hq3.frozen 0; have l3 := hq3.lt; replace ho3 := Lib.hid ho3; replace h3m := Lib.hid h3m; replace hA3 := Lib.hid hA3; replace hf3 := Lib.hid hf3; replace hm3 := Lib.hid hm3; replace hq3 := Lib.hid hq3)))
              all_goals
                go_wp2_with fail
                all_goals
                  go_ret
                  exact open_end hI.out hq3.out ho3.out hm3.out hf3.out hk hB
            · have d3 : decide ((0 : Int) < (k : Int)) = true := decide_eq_true (by omega)
              obtain ⟨j, hkj⟩ : ∃ j, k = j + 1 := ⟨k - 1, by omega⟩
              have hj : j < C.length := by omega
              have hcl := hrd.out k hk m
              rw [hbb] at hcl
              rw [show k - 1 = j by omega, List.getElem?_eq_getElem hj, Option.getD_some] at hcl
              obtain ⟨g, o, rfl, y1, -, -, -⟩ := rda_get (Ow.rd how.out) hj (by omega)
              clear hbb
              generalize C[j].n = yn at y1 hcl
              rw [show j = k - 1 by omega] at y1
              replace hall := Lib.hid hall
              replace hcl := Lib.hid hcl
              replace hI := Lib.hid hI
              replace hkj := Lib.hid hkj
              go_wp2_with fail
              refine hcl.out.mono ?_
              rintro e w1 ⟨rfl, m2, rfl⟩
              dsimp only
              clear hcl y1
              generalize (some ⟨g, o, none⟩ : Option Addr) = A at *
              rw [World.drewN_drewN]
              generalize m + m2 = m at *
              go_upto_region 10 with fail
              go_region_law ((first
                | (refine step_copyA (by rfl) (.const (.slice none 0 0)) (.tmp 53) (by rfl) (by rfl) (by rfl) (rda_take (hR.out _ (by first | exact ((Mod.refl none_ w).drewN _).drew | exact ((Mod.refl none_ w).drewN _).drew.alloc _)) hk) (by omega) ?_; intro A1 c1 w1 ho1 h1m hf1; have hm1 : Mod none_ w w1 := Mod.trans (by first | exact ((Mod.refl none_ w).drewN _).drew | exact ((Mod.refl none_ w).drewN _).drew.alloc _) h1m; replace hf1 : Fresh w A1 := hf1.later (Mod.size (F := none_) (by first | exact ((Mod.refl none_ w).drewN _).drew | exact ((Mod.refl none_ w).drewN _).drew.alloc _)); have q1 : w1.cell? ⟨q, 0, none⟩ = some (.slice A C.length c) := hm1.cell_some hcell (fun h => h); have l1 := World.block_lt_of_cell? w1 _ q1; have qa1 : ∀ o, (w1.alloc o).cell? ⟨q, 0, none⟩ = some (.slice A C.length c) := fun o => (World.cell?_alloc_lt _ _ _ l1).trans q1; replace ho1 := Lib.hid ho1; replace h1m := Lib.hid h1m; replace hf1 := Lib.hid hf1; replace hm1 := Lib.hid hm1)
                | (refine step_appA (by rfl) (.tmp 54) (.tmp 58) (by rfl) (by rfl) (Ow.mod0 ho1.out ((Mod.refl none_ w1).alloc _)) (S := some ⟨w1.heap.size, 0, none⟩) (m := 1) (d := 1) (by rfl) (rda_one w1 _ ⟨s, 0, 0, x⟩) (by omega) ?_; intro A2 c2 w2 ho2 h2m hA2; have hm2 : Mod none_ w w2 := Mod.then (hm1.out.alloc _) h2m (fun i hi hf => by (obtain ⟨a, ha, rfl⟩ := hf; have := hf1.out a ha; omega)); have hf2 : Fresh w A2 := Fresh.app hf1.out (Mod.size (F := none_) (hm1.out.alloc _)) hA2; have q2 : w2.cell? ⟨q, 0, none⟩ = some (.slice A C.length c) := hm2.cell_some hcell (fun h => h); have l2 := World.block_lt_of_cell? w2 _ q2; replace ho2 := Lib.hid ho2; replace h2m := Lib.hid h2m; replace hA2 := Lib.hid hA2; replace hf2 := Lib.hid hf2; replace hm2 := Lib.hid hm2)
                | (refine step_appA (by rfl) (.tmp 54) (.tmp 58) (by rfl) (by rfl) ho1.out (S := some ⟨w.heap.size, 0, none⟩) (m := 1) (d := 1) (by rfl) (Rd.mod0 (rda_one (w.drewN m).drew _ ⟨s, 0, 0, x⟩) h1m.out) (by omega) ?_; intro A2 c2 w2 ho2 h2m hA2; have hm2 : Mod none_ w w2 := Mod.then hm1.out h2m (fun i hi hf => by (obtain ⟨a, ha, rfl⟩ := hf; have := hf1.out a ha; omega)); have hf2 : Fresh w A2 := Fresh.app hf1.out (Mod.size (F := none_) hm1.out) hA2; have q2 : w2.cell? ⟨q, 0, none⟩ = some (.slice A C.length c) := hm2.cell_some hcell (fun h => h); have l2 := World.block_lt_of_cell? w2 _ q2; replace ho2 := Lib.hid ho2; replace h2m := Lib.hid h2m; replace hA2 := Lib.hid hA2; replace hf2 := Lib.hid hf2; replace hm2 := Lib.hid hm2)
                | (refine step_appA (by rfl) (.tmp 59) (.tmp 65) (by rfl) (by rfl) ho2.out (by rfl) (rda_drop (hR.out _ hm2.out) hk hcn) (by omega) ?_; intro A3 c3 w3 ho3 h3m hA3; have hm3 : Mod none_ w w3 := Mod.then hm2.out h3m (fun i hi hf => by (obtain ⟨a, ha, rfl⟩ := hf; have := hf2.out a ha; omega)); have hf3 : Fresh w A3 := Fresh.app hf2.out hm2.out.size hA3; have hq3 := hq.out.mod hm3 (fun h => h); have q3 : w3.cell? ⟨q, 0, none⟩ = some (.slice A C.length c) := hq3.cell_ rfl; have z3 : w3.frozen? ⟨q, 0, none⟩ = false := hq3.frozen 0; have l3 := hq3.lt; replace ho3 := Lib.hid ho3; replace h3m := Lib.hid h3m; replace hA3 := Lib.hid hA3; replace hf3 := Lib.hid hf3; replace hm3 := Lib.hid hm3; replace hq3 := Lib.hid hq3)))
              all_goals
                go_wp2_with fail
                all_goals
                  go_ret
                  exact open_end hI.out hq3.out ho3.out hm3.out hf3.out hk hB
end Go.Proofs.Ytaohgefpnndjcaa
/-
  The accounts that a law of chapter 7 begins with: a chart and the reference's, the same.
-/
namespace Go.Proofs.Ytaohgefpnndjcaa
set_option linter.unusedVariables false
open Go.RowKit
theorem ins_sorted {a : Ac} : ∀ {C : List Ac}, SortedC C → (∀ x ∈ C, x.n ≠ a.n) → SortedC (insC a C)
  | [], _, _ => by unfold insC SortedC; simp
  | y :: l, hs, hn => by
    obtain ⟨h1, h2⟩ := List.pairwise_cons.1 hs
    unfold insC
    split
    · rename_i hay
      refine List.pairwise_cons.2 ⟨fun x hx => ?_, hs⟩
      rcases List.mem_cons.1 hx with rfl | hx
      · exact hay
      · exact bb_trans _ _ _ hay (h1 x hx)
    · rename_i hay
      have hya : bytesBefore y.n a.n = true := by
        rcases bb_total a.n y.n with h | h | h
        · exact absurd h hay
        · exact absurd h.symm (hn y (by simp))
        · exact h
      refine List.pairwise_cons.2 ⟨fun x hx => ?_, ins_sorted h2 (fun x hx => hn x (by simp [hx]))⟩
      rcases insC_mem hx with rfl | hx
      · exact hya
      · exact h1 x hx
theorem set_sorted {C : List Ac} (h : SortedC C) (b : Ac) : SortedC (setC C b) := by
  have e : ∀ x : Ac, (if x.n == b.n then b else x).n = x.n := fun x => by
    split
    · rename_i hh; exact (by simpa using hh : x.n = b.n).symm
    · rfl
  unfold setC SortedC
  rw [List.pairwise_map]
  exact h.imp fun hxy => by rw [e, e]; exact hxy
theorem open_sorted {C : List Ac} (h : SortedC C) (s : List UInt8) (x : Int) : SortedC (openR C s x).1 := by
  unfold openR
  split
  · exact h
  · split
    · exact h
    · split
      · exact h
      · rename_i h1 h2 h3
        refine ins_sorted h (fun y hy he => h2 ?_)
        cases hg : getC C s with
        | some a => rfl
        | none =>
          have := List.find?_eq_none.1 hg y hy
          simp at this
          exact absurd he this
theorem turn_sorted {C : List Ac} (h : SortedC C) (s : List UInt8) (x : Int) (act : Act_) (hn : ∀ a, (act a).1.n = a.n) : SortedC (turnR C s x act).1 := by
  unfold turnR
  split
  · exact h
  · split
    · exact h
    · split
      · exact h
      · split
        · exact h
        · exact set_sorted h _
def Both (w : World) (p b q B : Nat) (W : World) : Prop := ∃ C, ChAt W p b C ∧ RefAt W q B C ∧ OkC C ∧ Mod none_ w W
def AccPost (w : World) (e : Ending) (w' : World) : Prop := ∃ p b q C, e = .returned (.tuple #[.pointer (some ⟨p, 0, none⟩), .pointer (some ⟨q, 0, none⟩)]) ∧ ChAt w' p b C ∧ RefAt w' q (q + 1) C ∧ OkC C ∧ Mod none_ w w' ∧ w.heap.size ≤ p ∧ w.heap.size ≤ b ∧ p < q ∧ b < q ∧ q + 1 ≤ w'.heap.size
set_option maxRecDepth 100000 in
set_option maxHeartbeats 4000000 in
theorem accts_ok (w : World) (A : Option Addr) (n c : Nat) (os : List Ac) (hr : RdA w A n os) (hok : ∀ o ∈ os, AcOk o) :
    Calls Try.prog 10 #[.slice A n c] w (AccPost w) := by
  have k1 := Lib.hid (fun W => new_ok W)
  have hlen := hr.len
  replace hr := Lib.hid hr
  replace hok := Lib.hid hok
  go_enter Try.func10, Try.ntmps10
  go_wp2_with fail
  refine (k1.out _).mono ?_
  rintro e w1 ⟨p, b, rfl, hc1, hm1, hp, hb⟩
  dsimp only
  have hbl := hc1.2.1.lt
  have hpl := hc1.1.lt
  have hB0 : Hid (Both w p b w1.heap.size (w1.heap.size + 1) (w1.alloc (.cells #[.slice none 0 0] 36))) :=
    Lib.hid ⟨[], hc1.alloc _, ⟨none, 0, Blk.new _ _ _, Ow.nil _ _ _, (fun k ⟨a, ha, _⟩ => by cases ha)⟩, OkC.nil, hm1.alloc _⟩
  have hqb : w1.heap.size ≠ b := by omega
  have hqp : w1.heap.size ≠ p := by omega
  have hw1s : w.heap.size ≤ w1.heap.size := hm1.size
  replace hc1 := Lib.hid hc1
  replace hm1 := Lib.hid hm1
  go_wp2_with fail
  have hsz1 : (w1.alloc (.cells #[.slice none 0 0] 36)).heap.size = w1.heap.size + 1 := by simp
  generalize w1.heap.size = q at *
  go_loopw [6] (fun v wr => ∃ j : Nat, v = .int .i64 j ∧ j ≤ n ∧ j ≤ 14 ∧ (q + 1 ≤ wr.heap.size) ∧ Both w p b q (q + 1) wr) (fun v _ => n - (intOf v).toNat)
  case atStart => exact ⟨0, rfl, by omega, by omega, by omega, hB0.out⟩
  case round =>
    obtain ⟨j, rfl, hj, hj14, hqs, C, hC, hR, oC, hm⟩ := hrel
    clear hB0
    by_cases hgo : j < n ∧ j < 14
    · obtain ⟨hlt, hl14⟩ := hgo
      have d1 : decide ((j : Int) < (n : Int)) = true := decide_eq_true (by omega)
      have d2 : decide ((j : Int) < 14) = true := decide_eq_true (by omega)
      have hjo : j < os.length := by omega
      obtain ⟨g, o, rfl, y1, y2, y3, y4⟩ := rda_get (Rd.mod0 hr.out hm) hjo (by omega)
      have hao := hok.out os[j] (List.getElem_mem hjo)
      generalize os[j] = a at y1 y2 y3 y4 hao
      obtain ⟨s, xh, xs, xl⟩ := a
      obtain ⟨hz, ih, is, il⟩ := hao
      dsimp only at y1 y2 y3 y4 hz ih is il
      have hgl := World.block_lt_of_cell? wr _ y1
      have hs0 := hC.sorted
      -- the lists, step by step
      have o1 := open_okc oC s xl il
      obtain ⟨C1, hC1⟩ : ∃ C1, (openR C s xl).1 = C1 := ⟨_, rfl⟩
      obtain ⟨e1, he1⟩ : ∃ e1, (openR C s xl).2 = e1 := ⟨_, rfl⟩
      rw [hC1] at o1
      have i1 : I64 (-1) := by unfold I64; omega
      have o2 := give_okc o1 s (-1)
      obtain ⟨C2, hC2⟩ : ∃ C2, (turnR C1 s (-1) (giveA (-1))).1 = C2 := ⟨_, rfl⟩
      obtain ⟨e2, he2⟩ : ∃ e2, (turnR C1 s (-1) (giveA (-1))).2 = e2 := ⟨_, rfl⟩
      rw [hC2] at o2
      have o3 := give_okc o2 s xh
      obtain ⟨C3, hC3⟩ : ∃ C3, (turnR C2 s xh (giveA xh)).1 = C3 := ⟨_, rfl⟩
      obtain ⟨e3, he3⟩ : ∃ e3, (turnR C2 s xh (giveA xh)).2 = e3 := ⟨_, rfl⟩
      rw [hC3] at o3
      have o4 := aside_okc o3 s xs
      obtain ⟨C4, hC4⟩ : ∃ C4, (turnR C3 s xs (asideA xs)).1 = C4 := ⟨_, rfl⟩
      obtain ⟨e4, he4⟩ : ∃ e4, (turnR C3 s xs (asideA xs)).2 = e4 := ⟨_, rfl⟩
      rw [hC4] at o4
      have kO := fun W (h : ChAt W p b C) => (open_ok W p b C (txt s) xl h hz oC).mono (fun e w' (hp : ChPost W p b (openR C s xl) e w') => show e = .returned (.int .i64 e1) ∧ ChAt w' p b C1 ∧ Mod (· = b) W w' by obtain ⟨h1, h2, h3⟩ := hp; exact ⟨by rw [h1, he1], by rw [← hC1]; exact h2, h3⟩)
      have kG := fun W (h : ChAt W p b C1) => (give_ok W p b C1 (txt s) (-1) h hz o1.wf i1 (room_of o1)).mono (fun e w' (hp : ChPost W p b (turnR C1 s (-1) (giveA (-1))) e w') => show e = .returned (.int .i64 e2) ∧ ChAt w' p b C2 ∧ Mod (· = b) W w' by obtain ⟨h1, h2, h3⟩ := hp; exact ⟨by rw [h1, he2], by rw [← hC2]; exact h2, h3⟩)
      have kG3 := Lib.hid (fun W (h : ChAt W p b C2) => (give_ok W p b C2 (txt s) xh h hz o2.wf ih (room_of o2)).mono (fun e w' (hp : ChPost W p b (turnR C2 s xh (giveA xh)) e w') => show e = .returned (.int .i64 e3) ∧ ChAt w' p b C3 ∧ Mod (· = b) W w' by obtain ⟨h1, h2, h3⟩ := hp; exact ⟨by rw [h1, he3], by rw [← hC3]; exact h2, h3⟩))
      have kA4 := Lib.hid (fun W (h : ChAt W p b C3) => (aside_ok W p b C3 (txt s) xs h hz o3.wf is (room_of o3)).mono (fun e w' (hp : ChPost W p b (turnR C3 s xs (asideA xs)) e w') => show e = .returned (.int .i64 e4) ∧ ChAt w' p b C4 ∧ Mod (· = b) W w' by obtain ⟨h1, h2, h3⟩ := hp; exact ⟨by rw [h1, he4], by rw [← hC4]; exact h2, h3⟩))
      have srt : ∀ {W : World} {D : List Ac}, ChAt W p b D → SortedC D := fun h => h.sorted
      have rO := fun W (h : RefAt W q (q+1) C) (hB : q + 1 ≤ W.heap.size) => (ropen_ok W q (q+1) C s xl h hs0 oC hz hB).mono (fun e w' (hp : RfPost W q (q+1) (openR C s xl) e w') => show e = .returned (.int .i64 e1) ∧ RefAt w' q (q+1) C1 ∧ Mod (· = q) W w' by obtain ⟨h1, h2, h3⟩ := hp; exact ⟨by rw [h1, he1], by rw [← hC1]; exact h2, h3⟩)
      have s1 : SortedC C1 := by rw [← hC1]; exact open_sorted hs0 s xl
      have s2 : SortedC C2 := by rw [← hC2]; exact turn_sorted s1 s (-1) (giveA (-1)) (fun _ => rfl)
      have s3 : SortedC C3 := by rw [← hC3]; exact turn_sorted s2 s xh (giveA xh) (fun _ => rfl)
      have rG := fun W (h : RefAt W q (q+1) C1) (hB : q + 1 ≤ W.heap.size) => (rgive_ok W q (q+1) C1 s (-1) h s1 o1 i1 hB).mono (fun e w' (hp : RfPost W q (q+1) (turnR C1 s (-1) (giveA (-1))) e w') => show e = .returned (.int .i64 e2) ∧ RefAt w' q (q+1) C2 ∧ Mod (· = q) W w' by obtain ⟨h1, h2, h3⟩ := hp; exact ⟨by rw [h1, he2], by rw [← hC2]; exact h2, h3⟩)
      have rG3 := Lib.hid (fun W (h : RefAt W q (q+1) C2) (hB : q + 1 ≤ W.heap.size) => (rgive_ok W q (q+1) C2 s xh h s2 o2 ih hB).mono (fun e w' (hp : RfPost W q (q+1) (turnR C2 s xh (giveA xh)) e w') => show e = .returned (.int .i64 e3) ∧ RefAt w' q (q+1) C3 ∧ Mod (· = q) W w' by obtain ⟨h1, h2, h3⟩ := hp; exact ⟨by rw [h1, he3], by rw [← hC3]; exact h2, h3⟩))
      have rA4 := Lib.hid (fun W (h : RefAt W q (q+1) C3) (hB : q + 1 ≤ W.heap.size) => (raside_ok W q (q+1) C3 s xs h s3 o3 is hB).mono (fun e w' (hp : RfPost W q (q+1) (turnR C3 s xs (asideA xs)) e w') => show e = .returned (.int .i64 e4) ∧ RefAt w' q (q+1) C4 ∧ Mod (· = q) W w' by obtain ⟨h1, h2, h3⟩ := hp; exact ⟨by rw [h1, he4], by rw [← hC4]; exact h2, h3⟩))
      clear hC1 he1 hC2 he2 hC3 he3 hC4 he4 srt
      obtain ⟨gb, hgb⟩ : ∃ gb, wr.heap.size = gb := ⟨_, rfl⟩
      let cells : World → Prop := fun W => W.cell? ⟨gb, 0, none⟩ = some (.string (txt s)) ∧ W.cell? ⟨gb, 1, none⟩ = some (.int .i64 xh) ∧ W.cell? ⟨gb, 2, none⟩ = some (.int .i64 xs) ∧ W.cell? ⟨gb, 3, none⟩ = some (.int .i64 xl)
      have cm : ∀ (F : Nat → Prop) (W W' : World), cells W → Mod F W W' → ¬ F gb → cells W' := fun F W W' h hmm hf => ⟨hmm.cell_some h.1 hf, hmm.cell_some h.2.1 hf, hmm.cell_some h.2.2.1 hf, hmm.cell_some h.2.2.2 hf⟩
      let Cs : Nat → List Ac := fun i => if i = 0 then C else if i = 1 then C1 else if i = 2 then C2 else if i = 3 then C3 else C4
      let St : World → Nat → Nat → Prop := fun W i m => cells W ∧ ChAt W p b (Cs i) ∧ RefAt W q (q+1) (Cs m) ∧ Mod none_ w W ∧ q + 1 ≤ W.heap.size
      have hgbb : ¬ gb = b := by omega
      have hgbq : ¬ gb = q := by omega
      have w0 : Mod none_ wr (wr.alloc (.cells #[.string (txt s), .int .i64 xh, .int .i64 xs, .int .i64 xl] 46)).drew := ((Mod.refl _ _).alloc _).drew
      have hB := Blk.new wr 46 #[.string (txt s), .int .i64 xh, .int .i64 xs, .int .i64 xl]
      rw [hgb] at hB
      have hst0 : Hid (St (wr.alloc (.cells #[.string (txt s), .int .i64 xh, .int .i64 xs, .int .i64 xl] 46)).drew 0 0) := Lib.hid ⟨⟨hB.cell_ rfl, hB.cell_ rfl, hB.cell_ rfl, hB.cell_ rfl⟩, hC.mod0 w0, hR.mod0 w0, hm.then w0 (fun _ _ h => h), Nat.le_trans hqs w0.size⟩
      have upC : ∀ (W w' : World) (i i' m : Nat), Hid (St W i m) → ChAt w' p b (Cs i') → Mod (· = b) W w' → Hid (St w' i' m) := fun W w' i i' m h hc hmm => Lib.hid ⟨cm _ _ _ h.out.1 hmm hgbb, hc, h.out.2.2.1.mod hmm hqb (fun k hk _ he => by have : k = b := he; omega), h.out.2.2.2.1.then hmm (fun k hk he => by have : k = b := he; omega), Nat.le_trans h.out.2.2.2.2 hmm.size⟩
      have upR : ∀ (W w' : World) (i m m' : Nat), Hid (St W i m) → RefAt w' q (q+1) (Cs m') → Mod (· = q) W w' → Hid (St w' i m') := fun W w' i m m' h hc hmm => Lib.hid ⟨cm _ _ _ h.out.1 hmm hgbq, h.out.2.1.mod hmm (fun he => hqp he.symm) (fun he => hqb he.symm), hc, h.out.2.2.2.1.then hmm (fun k hk he => by have : k = q := he; omega), Nat.le_trans h.out.2.2.2.2 hmm.size⟩
      have k0 := Lib.hid (fun W m (h : Hid (St W 0 m)) => (kO W h.out.2.1).mono (fun e w' hp => (⟨hp.1, upC W w' 0 1 m h hp.2.1 hp.2.2⟩ : e = .returned (.int .i64 e1) ∧ Hid (St w' 1 m))))
      have k1 := Lib.hid (fun W m (h : Hid (St W 1 m)) => (kG W h.out.2.1).mono (fun e w' hp => (⟨hp.1, upC W w' 1 2 m h hp.2.1 hp.2.2⟩ : e = .returned (.int .i64 e2) ∧ Hid (St w' 2 m))))
      have r0 := Lib.hid (fun W i (h : Hid (St W i 0)) => (rO W h.out.2.2.1 h.out.2.2.2.2).mono (fun e w' hp => (⟨hp.1, upR W w' i 0 1 h hp.2.1 hp.2.2⟩ : e = .returned (.int .i64 e1) ∧ Hid (St w' i 1))))
      have r1 := Lib.hid (fun W i (h : Hid (St W i 1)) => (rG W h.out.2.2.1 h.out.2.2.2.2).mono (fun e w' hp => (⟨hp.1, upR W w' i 1 2 h hp.2.1 hp.2.2⟩ : e = .returned (.int .i64 e2) ∧ Hid (St w' i 2))))
      have k2 := Lib.hid (fun W m (h : Hid (St W 2 m)) => (kG3.out W h.out.2.1).mono (fun e w' hp => (⟨hp.1, upC W w' 2 3 m h hp.2.1 hp.2.2⟩ : e = .returned (.int .i64 e3) ∧ Hid (St w' 3 m))))
      have k3 := Lib.hid (fun W m (h : Hid (St W 3 m)) => (kA4.out W h.out.2.1).mono (fun e w' hp => (⟨hp.1, upC W w' 3 4 m h hp.2.1 hp.2.2⟩ : e = .returned (.int .i64 e4) ∧ Hid (St w' 4 m))))
      have r2 := Lib.hid (fun W i (h : Hid (St W i 2)) => (rG3.out W h.out.2.2.1 h.out.2.2.2.2).mono (fun e w' hp => (⟨hp.1, upR W w' i 2 3 h hp.2.1 hp.2.2⟩ : e = .returned (.int .i64 e3) ∧ Hid (St w' i 3))))
      have r3 := Lib.hid (fun W i (h : Hid (St W i 3)) => (rA4.out W h.out.2.2.1 h.out.2.2.2.2).mono (fun e w' hp => (⟨hp.1, upR W w' i 3 4 h hp.2.1 hp.2.2⟩ : e = .returned (.int .i64 e4) ∧ Hid (St w' i 4))))
      have kc := Lib.hid (fun W i m (h : Hid (St W i m)) => show W.cell? ⟨gb, 0, none⟩ = some (.string (txt s)) ∧ W.cell? ⟨gb, 1, none⟩ = some (.int .i64 xh) ∧ W.cell? ⟨gb, 2, none⟩ = some (.int .i64 xs) ∧ W.cell? ⟨gb, 3, none⟩ = some (.int .i64 xl) from h.out.1)
      have kz := Lib.hid (fun W (h : Hid (St W 4 4)) => show ChAt W p b C4 ∧ RefAt W q (q+1) C4 ∧ Mod none_ w W ∧ q + 1 ≤ W.heap.size from h.out.2)
      clear_value St
      clear upC upR cm kO kG rO rG kG3 kA4 rG3 rA4
      clear_value cells Cs
      clear cells Cs
      clear hB w0
      replace hC := Lib.hid hC
      replace hR := Lib.hid hR
      replace oC := Lib.hid oC
      replace hm := Lib.hid hm
      replace hs0 := Lib.hid hs0
      replace o1 := Lib.hid o1
      replace o2 := Lib.hid o2
      replace o3 := Lib.hid o3
      replace o4 := Lib.hid o4
      replace s1 := Lib.hid s1
      replace s2 := Lib.hid s2
      replace s3 := Lib.hid s3
      replace hz := Lib.hid hz
      replace ih := Lib.hid ih
      replace is := Lib.hid is
      replace il := Lib.hid il
      replace i1 := Lib.hid i1
      go_upto_region 6 with fail
      go_region_held3 (fun W => W.cell? ⟨gb, 0, none⟩ = some (.string (txt s)) ∧ W.cell? ⟨gb, 1, none⟩ = some (.int .i64 xh) ∧ W.cell? ⟨gb, 2, none⟩ = some (.int .i64 xs) ∧ W.cell? ⟨gb, 3, none⟩ = some (.int .i64 xl)) (first | exact kc.out _ _ _ hst0 | exact kc.out _ _ _ (by assumption)) (first
        | (go_at_call 26; (with_reducible refine (k0.out _ _ (by assumption)).mono ?_); rintro e5 x1 ⟨rfl, h1⟩; dsimp only)
        | (go_at_call 28; (with_reducible refine (r0.out _ _ (by assumption)).mono ?_); rintro e6 x2 ⟨rfl, h2⟩; dsimp only)
        | (go_at_call 29; (with_reducible refine (k1.out _ _ (by assumption)).mono ?_); rintro e7 x3 ⟨rfl, h3⟩; dsimp only)
        | (go_at_call 30; (with_reducible refine (r1.out _ _ (by assumption)).mono ?_); rintro e8 x4 ⟨rfl, h4⟩; dsimp only))
      all_goals
        obtain ⟨t0, t1, t2, t3⟩ := kc.out _ 2 2 (by assumption)
        go_wp2_with fail
        refine (k2.out _ 2 (by assumption)).mono ?_
        rintro e9 x9 ⟨rfl, h9⟩
        dsimp only
        obtain ⟨t0, t1, t2, t3⟩ := kc.out _ 3 2 h9
        go_wp2_with fail
        refine (r2.out _ 3 h9).mono ?_
        rintro e10 x10 ⟨rfl, h10⟩
        dsimp only
        obtain ⟨t0, t1, t2, t3⟩ := kc.out _ 3 3 h10
        go_wp2_with fail
        refine (k3.out _ 3 h10).mono ?_
        rintro e11 x11 ⟨rfl, h11⟩
        dsimp only
        obtain ⟨t0, t1, t2, t3⟩ := kc.out _ 4 3 h11
        go_wp2_with fail
        refine (r3.out _ 4 h11).mono ?_
        rintro e12 x12 ⟨rfl, h12⟩
        dsimp only
        obtain ⟨hC12, hR12, hm12, hq12⟩ := kz.out _ h12
        replace hC12 := Lib.hid hC12
        replace hR12 := Lib.hid hR12
        replace hm12 := Lib.hid hm12
        go_wp2_with fail
        go_roundw
        case rel => exact ⟨j + 1, by go_num, by omega, by omega, hq12, C4, hC12.out, hR12.out, o4.out, hm12.out⟩
        case measure => simp [intOf]; omega
    · by_cases hlt : j < n
      · have d1 : decide ((j : Int) < (n : Int)) = true := decide_eq_true (by omega)
        have d2 : decide ((j : Int) < 14) = false := decide_eq_false (by omega)
        replace hC := Lib.hid hC
        replace hR := Lib.hid hR
        replace oC := Lib.hid oC
        replace hm := Lib.hid hm
        go_wp2_with fail
        go_ret2
        exact ⟨p, b, q, C, rfl, hC.out, hR.out, oC.out, hm.out, hp, hb, hpl, hbl, hqs⟩
      · have d1 : decide ((j : Int) < (n : Int)) = false := decide_eq_false (by omega)
        replace hC := Lib.hid hC
        replace hR := Lib.hid hR
        replace oC := Lib.hid oC
        replace hm := Lib.hid hm
        go_wp2_with fail
        go_ret2
        exact ⟨p, b, q, C, rfl, hC.out, hR.out, oC.out, hm.out, hp, hb, hpl, hbl, hqs⟩
end Go.Proofs.Ytaohgefpnndjcaa
/-
  What posting legs of different names does; legs in another row. Plain.
-/
namespace Go.Proofs.Ytaohgefpnndjcaa
set_option linter.unusedVariables false
open Go.RowKit
def updL (C : List Ac) (l : Lg) : List Ac := C.map fun a => if a.n = l.n then { a with h := a.h + l.x } else a
def addL (ls : List Lg) (a : Ac) : Ac := match ls.find? (fun l => l.n == a.n) with | some l => { a with h := a.h + l.x } | none => a
def applyL (C : List Ac) (ls : List Lg) : List Ac := C.map (addL ls)
theorem post_eff {C : List Ac} {l : Lg} (hs : SortedC C) (h : (postR C l).2 = 0) : (∃ a, getC C l.n = some a ∧ I64 (a.h + l.x)) ∧ (postR C l).1 = updL C l := by
  unfold postR at h ⊢
  cases hg : getC C l.n with
  | none => rw [hg] at h; dsimp only at h; omega
  | some a =>
    rw [hg] at h
    dsimp only at h ⊢
    by_cases h1 : (actR (0 - l.x)).2 ≠ 0
    · rw [if_pos h1] at h; exact absurd h h1
    · rw [if_neg h1] at h ⊢
      have h2 : (actR (0 - l.x)).2 = 0 := by omega
      obtain ⟨_, h3⟩ := actR_zero h2
      rw [h3] at h ⊢
      obtain ⟨a', hg', k1, _, _, k4⟩ := turn_zero h
      rw [hg] at hg'
      injection hg' with hg'
      subst hg'
      obtain ⟨k5, k6⟩ := actR_zero (show (actR (a.h - (0 - l.x))).2 = 0 from k1)
      have k7 : a.h - (0 - l.x) = a.h + l.x := by omega
      rw [k7] at k5 k6
      refine ⟨⟨a, rfl, ⟨(inI_yes.1 k5).1, (inI_yes.1 k5).2⟩⟩, ?_⟩
      rw [k4]
      have k8 : (giveA (0 - l.x) a).1 = { a with h := a.h + l.x } := by unfold giveA; rw [k7, k6]
      rw [k8]
      unfold setC updL
      refine List.map_congr_left fun y hy => ?_
      have hn := getC_name hg
      by_cases e : y.n = l.n
      · have : y = a := uniq_n hs hy (getC_mem hg) (by rw [e, hn])
        subst this
        rw [if_pos e, if_pos (by simp)]
      · rw [if_neg e, if_neg (by simp only [beq_iff_eq]; rw [hn]; exact e)]
theorem post_agree {C D : List Ac} {l : Lg} (h : getC C l.n = getC D l.n) : (postR C l).2 = (postR D l).2 := by
  unfold postR
  rw [← h]
  cases getC C l.n with
  | none => rfl
  | some a =>
    dsimp only
    split
    · rfl
    · exact (turn_agree (fun _ => rfl) h).1
theorem get_upd_other {l : Lg} {n : List UInt8} (h : l.n ≠ n) : ∀ C : List Ac, getC (updL C l) n = getC C n
  | [] => rfl
  | y :: t => by
    have ih := get_upd_other h t
    unfold updL getC at ih ⊢
    rw [List.map_cons]
    by_cases e : y.n = l.n
    · rw [if_pos e]
      have hf : (y.n == n) = false := by rw [beq_eq_false_iff_ne, e]; exact h
      rw [List.find?_cons_of_neg (by simpa using (by rw [e]; exact h : y.n ≠ n)), List.find?_cons_of_neg (by simpa using (by rw [e]; exact h : y.n ≠ n)), ih]
    · rw [if_neg e]
      by_cases e2 : y.n = n
      · rw [List.find?_cons_of_pos (by simpa using e2), List.find?_cons_of_pos (by simpa using e2)]
      · rw [List.find?_cons_of_neg (by simpa using e2), List.find?_cons_of_neg (by simpa using e2), ih]
theorem upd_names (C : List Ac) (l : Lg) : (updL C l).map (fun a => a.n) = C.map (fun a => a.n) := by
  unfold updL
  rw [List.map_map]
  refine List.map_congr_left fun a _ => ?_
  show (if a.n = l.n then { a with h := a.h + l.x } else a).n = a.n
  split <;> rfl
theorem upd_sorted {C : List Ac} (h : SortedC C) (l : Lg) : SortedC (updL C l) := by
  unfold SortedC at h ⊢
  have := upd_names C l
  have h1 : ((updL C l).map fun a => a.n).Pairwise fun a b => bytesBefore a b = true := by rw [this, List.pairwise_map]; exact h
  rwa [List.pairwise_map] at h1
theorem add_upd (C : List Ac) (l : Lg) (ls : List Lg) (h : ∀ m ∈ ls, m.n ≠ l.n) : applyL (updL C l) ls = applyL C (l :: ls) := by
  unfold applyL updL
  rw [List.map_map]
  refine List.map_congr_left fun a _ => ?_
  show addL ls (if a.n = l.n then { a with h := a.h + l.x } else a) = addL (l :: ls) a
  unfold addL
  by_cases e : a.n = l.n
  · rw [if_pos e]
    have hf : ls.find? (fun m => m.n == a.n) = none := by
      rw [List.find?_eq_none]
      intro m hm
      simp only [beq_iff_eq]
      rw [e]; exact h m hm
    dsimp only
    rw [hf, List.find?_cons_of_pos (by simpa using e.symm)]
  · rw [if_neg e, List.find?_cons_of_neg (by simp only [beq_iff_eq]; exact fun h => e h.symm)]
theorem all_eff : ∀ (ls : List Lg) {C : List Ac}, SortedC C → (ls.map fun l => l.n).Nodup → ((allR C ls).2 = 0 ↔ ∀ l ∈ ls, (postR C l).2 = 0) ∧ ((allR C ls).2 = 0 → (allR C ls).1 = applyL C ls)
  | [], C, _, _ => by
    refine ⟨by simp [allR], fun _ => ?_⟩
    show C = C.map (addL [])
    conv => lhs; rw [← List.map_id C]
    exact List.map_congr_left fun a _ => rfl
  | l :: ls, C, hs, hn => by
    rw [List.map_cons, List.nodup_cons] at hn
    have hne : ∀ m ∈ ls, m.n ≠ l.n := fun m hm e => hn.1 (List.mem_map.2 ⟨m, hm, e⟩)
    by_cases h0 : (postR C l).2 = 0
    · obtain ⟨_, he⟩ := post_eff hs h0
      have hag : ∀ m ∈ ls, (postR (updL C l) m).2 = (postR C m).2 := fun m hm => post_agree (get_upd_other (fun e => hne m hm e.symm) C)
      obtain ⟨i1, i2⟩ := all_eff ls (C := updL C l) (upd_sorted hs l) hn.2
      have hall : allR C (l :: ls) = allR (updL C l) ls := by
        show (if (postR C l).2 ≠ 0 then postR C l else allR (postR C l).1 ls) = _
        rw [if_neg (by omega), he]
      rw [hall]
      refine ⟨i1.trans ?_, fun h => by rw [i2 h, add_upd C l ls hne]⟩
      constructor
      · intro h m hm
        rcases List.mem_cons.1 hm with rfl | hm
        · exact h0
        · rw [← hag m hm]; exact h m hm
      · intro h m hm
        rw [hag m hm]; exact h m (List.mem_cons_of_mem _ hm)
    · have hall : allR C (l :: ls) = postR C l := by
        show (if (postR C l).2 ≠ 0 then postR C l else allR (postR C l).1 ls) = _
        rw [if_pos h0]
      rw [hall]
      exact ⟨⟨fun h => absurd h h0, fun h => absurd (h l (by simp)) h0⟩, fun h => absurd h h0⟩
theorem right_iff (ls : List Lg) : rightB ls = true ↔ (∀ l ∈ ls, okLeg l = true) ∧ (ls.map fun l => l.n).Nodup ∧ 2 ≤ ls.length ∧ ls.length ≤ 6 := by
  unfold rightB
  rw [Bool.and_eq_true, Bool.and_eq_true, Bool.and_eq_true, decide_eq_true_iff, decide_eq_true_iff, decide_eq_true_iff, (seenL_len ls).2, List.all_eq_true]
  exact ⟨fun ⟨⟨⟨a, b⟩, c⟩, d⟩ => ⟨a, b, c, d⟩, fun ⟨a, b, c, d⟩ => ⟨⟨⟨a, b⟩, c⟩, d⟩⟩
theorem right_perm {ls ms : List Lg} (h : ls.Perm ms) : rightB ls = rightB ms := by
  rw [Bool.eq_iff_iff, right_iff, right_iff, h.length_eq, (h.map fun l : Lg => l.n).nodup_iff]
  exact ⟨fun ⟨a, b⟩ => ⟨fun l hl => a l (h.mem_iff.2 hl), b⟩, fun ⟨a, b⟩ => ⟨fun l hl => a l (h.mem_iff.1 hl), b⟩⟩
theorem weigh_perm {ls ms : List Lg} (h : ls.Perm ms) : weighB ls = weighB ms := by
  unfold weighB
  rw [isum_perm (h.map fun l : Lg => l.x)]
theorem uniq_l {ls : List Lg} (h : (ls.map fun l => l.n).Nodup) : ∀ {l m : Lg}, l ∈ ls → m ∈ ls → l.n = m.n → l = m := by
  induction ls with
  | nil => intro l m hl; cases hl
  | cons y t ih =>
    rw [List.map_cons, List.nodup_cons] at h
    intro l m hl hm he
    rcases List.mem_cons.1 hl with hl2 | hl2
    · rcases List.mem_cons.1 hm with hm2 | hm2
      · rw [hl2, hm2]
      · exact absurd (List.mem_map.2 ⟨m, hm2, by rw [← he, hl2]⟩) h.1
    · rcases List.mem_cons.1 hm with hm2 | hm2
      · exact absurd (List.mem_map.2 ⟨l, hl2, by rw [he, hm2]⟩) h.1
      · exact ih h.2 hl2 hm2 he
theorem find_perm {ls ms : List Lg} (h : ls.Perm ms) (hn : (ls.map fun l => l.n).Nodup) (s : List UInt8) : ls.find? (fun l => l.n == s) = ms.find? (fun l => l.n == s) := by
  cases hl : ls.find? (fun l => l.n == s) with
  | none =>
    symm
    rw [List.find?_eq_none] at hl ⊢
    exact fun x hx => hl x (h.mem_iff.2 hx)
  | some l =>
    have h1 := List.mem_of_find?_eq_some hl
    have h2 : l.n = s := by simpa using List.find?_some hl
    cases hm : ms.find? (fun l => l.n == s) with
    | none =>
      have := List.find?_eq_none.1 hm l (h.mem_iff.1 h1)
      simp at this
      exact absurd h2 this
    | some m =>
      have h3 := List.mem_of_find?_eq_some hm
      have h4 : m.n = s := by simpa using List.find?_some hm
      rw [uniq_l hn h1 (h.mem_iff.2 h3) (by rw [h2, h4])]
theorem apply_perm {ls ms : List Lg} (h : ls.Perm ms) (hn : (ls.map fun l => l.n).Nodup) (C : List Ac) : applyL C ls = applyL C ms := by
  unfold applyL
  refine List.map_congr_left fun a _ => ?_
  unfold addL
  rw [find_perm h hn]
theorem make_no1 {C : List Ac} {ls : List Lg} (h : rightB ls = false) : makeR C ls = (C, 1) := by
  have : checkR C ls = 1 := by unfold checkR; rw [if_pos h]
  unfold makeR
  rw [this, if_pos (by omega)]
theorem make_no2 {C : List Ac} {ls : List Lg} (h : rightB ls = true) (h2 : weighB ls = false) : makeR C ls = (C, 8) := by
  have : checkR C ls = 8 := by unfold checkR; rw [if_neg (by rw [h]; simp), if_pos h2]
  unfold makeR
  rw [this, if_pos (by omega)]
theorem make_yes {C : List Ac} {ls : List Lg} (h : rightB ls = true) (h2 : weighB ls = true) : makeR C ls = if (allR C ls).2 ≠ 0 then (C, (allR C ls).2) else allR C ls := by
  have : checkR C ls = (allR C ls).2 := by unfold checkR; rw [if_neg (by rw [h]; simp), if_neg (by rw [h2]; simp)]
  unfold makeR
  rw [this]
theorem make_perm {C : List Ac} {ls ms : List Lg} (hs : SortedC C) (h : ls.Perm ms) : ((makeR C ls).2 = 0 ↔ (makeR C ms).2 = 0) ∧ (makeR C ls).1 = (makeR C ms).1 := by
  have hr2 := right_perm h
  have hw2 := weigh_perm h
  cases hr : rightB ls with
  | false => rw [make_no1 hr, make_no1 (hr2 ▸ hr)]; simp
  | true =>
    cases hw : weighB ls with
    | false => rw [make_no2 hr hw, make_no2 (hr2 ▸ hr) (hw2 ▸ hw)]; simp
    | true =>
      rw [make_yes hr hw, make_yes (hr2 ▸ hr) (hw2 ▸ hw)]
      obtain ⟨_, hn, _⟩ := (right_iff ls).1 hr
      have hn' : (ms.map fun l => l.n).Nodup := (h.map fun l : Lg => l.n).nodup_iff.1 hn
      obtain ⟨a1, a2⟩ := all_eff ls hs hn
      obtain ⟨b1, b2⟩ := all_eff ms hs hn'
      have hiff : (allR C ls).2 = 0 ↔ (allR C ms).2 = 0 := a1.trans (Iff.trans ⟨fun k l hl => k l (h.mem_iff.2 hl), fun k l hl => k l (h.mem_iff.1 hl)⟩ b1.symm)
      by_cases h0 : (allR C ls).2 = 0
      · have h1 := hiff.1 h0
        rw [if_neg (by omega), if_neg (by omega)]
        exact ⟨hiff, by rw [a2 h0, b2 h1, apply_perm h hn]⟩
      · have h1 : ¬ (allR C ms).2 = 0 := fun k => h0 (hiff.2 k)
        rw [if_pos h0, if_pos h1]
        exact ⟨⟨fun k => absurd k h0, fun k => absurd k h1⟩, rfl⟩
end Go.Proofs.Ytaohgefpnndjcaa
