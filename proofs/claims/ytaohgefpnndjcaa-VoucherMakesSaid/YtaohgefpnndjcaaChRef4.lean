/-
  The reference's Open.
-/
import Derived.Test.YtaohgefpnndjcaaChRef3
import Derived.Test.YtaohgefpnndjcaaChOpen
import Derived.Deep.RegionLaw
namespace Go.Proofs.Ytaohgefpnndjcaa
set_option linter.unusedVariables false
open Go.RowKit
theorem step_appA {w : World} {ops : Array Oper} {o : Oper} {a : Act} {K : Act → World → Prop} {Q : Exit → Act → World → Prop} {E : Prop} (hgd : o.guard = none) (s x : Operand)
    (ho : o.op = .call { callee := .builtin .append, args := #[s, x], argTypes := #[22, 22] })
    {A : Option Addr} {n c : Nat} {xs : List Ac} (hs : a.eval s = .slice A n c) (hown : OwA w A n c xs)
    {S : Option Addr} {m d : Nat} {news : List Ac} (hx : a.eval x = .slice S m d) (hr : RdA w S m news) (hb : (n + m) * 40 ≤ 140737488355328)
    (h : ∀ A' c' w', OwA w' A' (n + m) c' (xs ++ news) → Mod (fp A) w w' → (A' = A ∨ A' = some ⟨w.heap.size, 0, none⟩) → K (a.put o.dst (.slice A' (n + m) c')) w') :
    if Region.wanted o (yielded ops a.tmps) = true then Oper.wp Try.prog o a w K Q else E := by
  obtain ⟨i0, hi, hz0, hz1, hz2⟩ := info_parts acinfo
  refine step_append_ow hgd s x 22 ho 46 i0 _ 4 40 Try.underlying22 hi hz0 hz1 hz2 rfl (by omega) A n c (acs xs) hs hown S m d (acs news) hx hr (acs_one _) (by omega) (by omega) ?_
  intro A' c' w' h1
  rw [← acs_append] at h1
  exact h A' c' w' h1
theorem step_copyA {w : World} {ops : Array Oper} {o : Oper} {a : Act} {K : Act → World → Prop} {Q : Exit → Act → World → Prop} {E : Prop} (hgd : o.guard = none) (s x : Operand)
    (ho : o.op = .call { callee := .builtin .append, args := #[s, x], argTypes := #[22, 22] })
    (hs : a.eval s = .slice none 0 0) {S : Option Addr} {m d : Nat} {news : List Ac} (hx : a.eval x = .slice S m d) (hr : RdA w S m news) (hb : m ≤ 1000)
    (h : ∀ A' c' w', OwA w' A' m c' news → Mod none_ w w' → Fresh w A' → K (a.put o.dst (.slice A' m c')) w') :
    if Region.wanted o (yielded ops a.tmps) = true then Oper.wp Try.prog o a w K Q else E := by
  refine step_appA hgd s x ho hs (show OwA w none 0 0 [] from Ow.nil _ _ _) hx hr (by omega) ?_
  intro A' c' w' h1 h2 h3
  rw [Nat.zero_add] at h1 ⊢
  refine h A' c' w' h1 (h2.mono ?_) ?_
  · rintro i ⟨a, h, _⟩; cases h
  · rcases h3 with rfl | rfl
    · intro a ha; cases ha
    · intro a ha; cases ha; exact Nat.le_refl _
theorem rda_take {w : World} {A : Option Addr} {n k : Nat} {C : List Ac} (h : RdA w A n C) (hk : k ≤ n) : RdA w A k (C.take k) := by
  have := Rd.take_ h hk
  have e : (acs C).take (k * 4) = acs (C.take k) := by
    have hl := h.len
    have h2 : acs C = acs (C.take k) ++ acs (C.drop k) := by rw [← acs_append, List.take_append_drop]
    rw [h2]
    exact List.take_left' (by rw [acs_length, List.length_take]; congr 1; omega)
  rwa [e] at this
theorem rda_drop {w : World} {A : Option Addr} {n k c : Nat} {C : List Ac} (h : RdA w A n C) (hk : k ≤ n) (hc : n ≤ c) : RdA w (if c = k then A else A.map (·.add (k * 4))) (n - k) (C.drop k) := by
  have := Rd.drop_ h hk hc
  have e : (acs C).drop (k * 4) = acs (C.drop k) := by
    have hl := h.len
    have h2 : acs C = acs (C.take k) ++ acs (C.drop k) := by rw [← acs_append, List.take_append_drop]
    rw [h2]
    exact List.drop_left' (by rw [acs_length, List.length_take]; congr 1; omega)
  rwa [e] at this
theorem open_end {w w3 : World} {q B k c3 : Nat} {A A3 : Option Addr} {n c : Nat} {C : List Ac} {a : Ac} (hI : insC a C = C.take k ++ a :: C.drop k) (hq : Blk w3 q 36 #[.slice A n c]) (ho : OwA w3 A3 (k + 1 + (C.length - k)) c3 (C.take k ++ [a] ++ C.drop k)) (hm : Mod none_ w w3) (hf : Fresh w A3) (hk : k ≤ C.length) (hB : B ≤ w.heap.size) :
    RfPost w q B (insC a C, 0) (.returned (.int .i64 0)) (w3.setCell ⟨q, 0, none⟩ (.slice A3 (k + 1 + (C.length - k)) c3)) := by
  have hl : (insC a C).length = k + 1 + (C.length - k) := by rw [insC_len]; omega
  have he : C.take k ++ [a] ++ C.drop k = insC a C := by rw [hI]; simp
  rw [he] at ho
  have hne : ∀ i, fp A3 i → ¬ i = q := fun i hi e => Ow.ne_blk ho hq (by decide) (by rw [← e]; exact hi)
  refine ⟨rfl, ⟨A3, c3, ?_, ?_, ?_⟩, (hm.any (· = q)).setCell (.inl rfl) _⟩
  · dsimp only
    rw [hl]; exact hq.set_ 0 _
  · dsimp only
    rw [hl]; exact Ow.mod ho ((Mod.refl (· = q) w3).setCell (.inl rfl) _) hne
  · rintro i ⟨b, hb, rfl⟩
    have := hf b hb
    omega
set_option maxRecDepth 100000 in
set_option maxHeartbeats 4000000 in
theorem ropen_ok (w : World) (q B : Nat) (C : List Ac) (s : List UInt8) (x : Int) (h : RefAt w q B C) (hs : SortedC C) (ho : OkC C) (hz : (txt s).size ≤ maxLen) (hB : B ≤ w.heap.size) :
    Calls Try.prog 28 #[.pointer (some ⟨q, 0, none⟩), .string (txt s), .int .i64 x] w (RfPost w q B (openR C s x)) := by
  have hl : C.length ≤ 12 := ho.2
  have cn := Lib.hid (fun W => rname_ok W (txt s) hz)
  rw [show (txt s).data.toList = s from rfl] at cn
  clear hz
  unfold openR
  by_cases hbad : nameB s = false ∨ x < 0
  · rw [if_pos hbad]
    cases hn : nameB s with
    | false =>
      rw [hn] at cn
      replace h := Lib.hid h
      replace hs := Lib.hid hs
      replace ho := Lib.hid ho
      replace hn := Lib.hid hn
      replace hbad := Lib.hid hbad
      go_enter Try.func28, Try.ntmps28
      go_wp2_with fail
      refine (cn.out _).mono ?_
      rintro e w1 ⟨rfl, rfl⟩
      dsimp only
      go_wp2_with fail
      go_ret
      exact ⟨rfl, h.out, Mod.refl _ _⟩
    | true =>
      rw [hn] at cn hbad
      have hx : x < 0 := by rcases hbad with h | h; cases h; exact h
      have d1 : decide (x < 0) = true := decide_eq_true hx
      replace h := Lib.hid h
      replace hs := Lib.hid hs
      replace ho := Lib.hid ho
      replace hn := Lib.hid hn
      replace hbad := Lib.hid hbad
      go_enter Try.func28, Try.ntmps28
      go_wp2_with fail
      refine (cn.out _).mono ?_
      rintro e w1 ⟨rfl, rfl⟩
      dsimp only
      go_wp2_with fail
      go_ret
      exact ⟨rfl, h.out, Mod.refl _ _⟩
  · rw [if_neg hbad]
    have hn : nameB s = true := by
      cases hn : nameB s with
      | true => rfl
      | false => exact absurd (.inl hn) hbad
    have hx : ¬ x < 0 := fun h => hbad (.inr h)
    have d1 : decide (x < 0) = false := decide_eq_false hx
    rw [hn] at cn
    clear hbad
    cases hg : getC C s with
    | some a =>
      rw [if_pos (show (some a).isSome = true from rfl)]
      obtain ⟨i, hst, _⟩ := stands_of hg
      have ca := Lib.hid (fun W (h : RefAt W q B C) => rat_some W q B C s i h (by omega) hst)
      have d2 : decide ((0 : Int) ≤ (i : Int)) = true := decide_eq_true (by omega)
      replace h := Lib.hid h
      replace hs := Lib.hid hs
      replace ho := Lib.hid ho
      replace hn := Lib.hid hn
      replace hst := Lib.hid hst
      replace hg := Lib.hid hg
      replace hx := Lib.hid hx
      go_enter Try.func28, Try.ntmps28
      go_wp2_with fail
      refine (cn.out _).mono ?_
      rintro e w1 ⟨rfl, rfl⟩
      dsimp only
      go_wp2_with fail
      refine (ca.out _ h.out).mono ?_
      rintro e w1 ⟨rfl, rfl⟩
      dsimp only
      go_wp2_with fail
      go_ret
      exact ⟨rfl, h.out, Mod.refl _ _⟩
    | none =>
      rw [if_neg (by simp)]
      have ca := Lib.hid (fun W (h : RefAt W q B C) => rat_none W q B C s h (by omega) hg)
      by_cases h12 : C.length = 12
      · rw [if_pos h12]
        obtain ⟨A, c, hcell, _, _⟩ := h.cell
        rw [h12] at hcell
        replace h := Lib.hid h
        replace hs := Lib.hid hs
        replace ho := Lib.hid ho
        replace hn := Lib.hid hn
        replace hg := Lib.hid hg
        replace hx := Lib.hid hx
        replace h12 := Lib.hid h12
        go_enter Try.func28, Try.ntmps28
        go_wp2_with fail
        refine (cn.out _).mono ?_
        rintro e w1 ⟨rfl, rfl⟩
        dsimp only
        go_wp2_with fail
        refine (ca.out _ h.out).mono ?_
        rintro e w1 ⟨rfl, rfl⟩
        dsimp only
        go_wp2_with fail
        go_ret
        exact ⟨rfl, h.out, Mod.refl _ _⟩
      · rw [if_neg h12]
        have hl12 : C.length < 12 := by omega
        obtain ⟨A, c, hq, how, hfa⟩ := h
        have hcell : w.cell? ⟨q, 0, none⟩ = some (.slice A C.length c) := hq.cell_ rfl
        have hql := hq.lt
        have hcn : C.length ≤ c := how.2.1
        have hcap := how.2.2.1
        unfold maxLen at hcap
        have hins := fun k => ins_at (a := ⟨s, 0, 0, x⟩) (C := C) (k := k) hs
        have hrd := Lib.hid (fun k (hk : k ≤ C.length) (m : Nat) => ahead_ok (w.drewN m) s (C[k-1]?.getD ⟨[], 0, 0, 0⟩).n (by have := name_len hn; omega) (by
          cases hh : C[k-1]? with
          | none => exact Nat.zero_le _
          | some a => have := ho.nm a (List.mem_of_getElem? hh); simp only [Option.getD_some]; omega))
        have h' : RefAt w q B C := ⟨A, c, hq, how, hfa⟩
        have hnd : C.length ≤ 1000 := by omega
        replace hq := Lib.hid hq
        replace how := Lib.hid how
        replace hfa := Lib.hid hfa
        replace hs := Lib.hid hs
        replace ho := Lib.hid ho
        replace hn := Lib.hid hn
        replace hg := Lib.hid hg
        replace hx := Lib.hid hx
        replace h12 := Lib.hid h12
        replace hins := Lib.hid hins
        replace h' := Lib.hid h'
        go_enter Try.func28, Try.ntmps28
        go_wp2_with fail
        refine (cn.out _).mono ?_
        rintro e w1 ⟨rfl, rfl⟩
        dsimp only
        go_wp2_with fail
        refine (ca.out _ h'.out).mono ?_
        rintro e w1 ⟨rfl, rfl⟩
        dsimp only
        clear cn ca
        go_wp2_with fail
        go_loopw [7] (fun v wr => ∃ k : Nat, v = .int .i64 k ∧ k ≤ C.length ∧ (∀ i (hi : i < C.length), k ≤ i → bytesBefore s C[i].n = true) ∧ ∃ m, wr = w.drewN m) (fun v _ => (intOf v).toNat)
        case atStart => exact ⟨C.length, rfl, by omega, fun i hi h => absurd h (by omega), 0, rfl⟩
        case round =>
          obtain ⟨k, rfl, hk, hall, m, rfl⟩ := hrel
          by_cases hgo : 0 < k ∧ bytesBefore s (C[k-1]?.getD ⟨[], 0, 0, 0⟩).n = true
          · obtain ⟨hk0, hbb⟩ := hgo
            have d3 : decide ((0 : Int) < (k : Int)) = true := decide_eq_true (by omega)
            obtain ⟨j, rfl⟩ : ∃ j, k = j + 1 := ⟨k - 1, by omega⟩
            have hj : j < C.length := by omega
            rw [Nat.add_sub_cancel] at hbb
            have hcl := hrd.out (j + 1) hk m
            rw [Nat.add_sub_cancel, List.getElem?_eq_getElem hj, Option.getD_some] at hcl
            rw [List.getElem?_eq_getElem hj, Option.getD_some] at hbb
            rw [hbb] at hcl
            obtain ⟨g, o, rfl, y1, -, -, -⟩ := rda_get (Ow.rd how.out) hj (by omega)
            have hw1 : wrap64 ((↑(j + 1) : Int) - 1) = (j : Int) := by unfold wrap64; omega
            have hw2 : wrap64 ((j : Int) + 1 - 1) = (j : Int) := by unfold wrap64; omega
            have hnx : ∀ i (hi : i < C.length), j ≤ i → bytesBefore s C[i].n = true := fun i hi h => by
              by_cases e : i = j
              · subst e; exact hbb
              · exact hall i hi (by omega)
            generalize C[j].n = yn at y1 hcl hbb
            replace hall := Lib.hid hall
            replace hbb := Lib.hid hbb
            replace hcl := Lib.hid hcl
            replace hnx := Lib.hid hnx
            go_wp2_with fail
            refine hcl.out.mono ?_
            rintro e w1 ⟨rfl, m2, rfl⟩
            dsimp only
            go_wp2_with fail
            go_roundw
            case rel => exact ⟨j, by go_num, by omega, hnx.out, _, rfl⟩
            case measure => simp [intOf]
          · have hex : (k = 0 ∧ insC ⟨s, 0, 0, x⟩ C = C.take k ++ ⟨s, 0, 0, x⟩ :: C.drop k) ∨ (0 < k ∧ bytesBefore s (C[k-1]?.getD ⟨[], 0, 0, 0⟩).n = false ∧ insC ⟨s, 0, 0, x⟩ C = C.take k ++ ⟨s, 0, 0, x⟩ :: C.drop k) := by
              by_cases hk0 : k = 0
              · exact .inl ⟨hk0, hins.out k hk hall (fun i hi h => absurd h (by omega))⟩
              · have hb : bytesBefore s (C[k-1]?.getD ⟨[], 0, 0, 0⟩).n = false := by
                  cases hb : bytesBefore s (C[k-1]?.getD ⟨[], 0, 0, 0⟩).n with
                  | false => rfl
                  | true => exact absurd ⟨by omega, hb⟩ hgo
                refine .inr ⟨by omega, hb, hins.out k hk hall (fun i hi h => ?_)⟩
                subst h
                rw [Nat.add_sub_cancel, List.getElem?_eq_getElem hi, Option.getD_some] at hb
                exact hb
            have hR := Lib.hid (fun W (h : Mod none_ w W) => Rd.mod0 (Ow.rd how.out) h)
            have hal : ∀ (m : Nat) (o : Obj), ((w.drewN m).alloc o).cell? ⟨q, 0, none⟩ = some (.slice A C.length c) := fun m o => (World.cell?_alloc_lt _ _ _ hql).trans hcell
            have z1 : (0 : Int) ≤ (k : Int) := by omega
            have z2 : (k : Int) ≤ (C.length : Int) := by omega
            have z3 : (C.length : Int) ≤ (c : Int) := by omega
            have z4 : (k : Int) ≤ (c : Int) := by omega
            obtain ⟨mm, hmm⟩ : ∃ W, W = w.drewN m := ⟨_, rfl⟩
            clear hgo mm hmm
            rcases hex with ⟨hk0, hI⟩ | ⟨hk0, hbb, hI⟩
            · have d3 : decide ((0 : Int) < (k : Int)) = false := decide_eq_false (by omega)
              have d4 : decide (0 < k) = false := decide_eq_false (by omega)
              have d5 : ¬ 0 < k := by omega
              replace hall := Lib.hid hall
              replace hI := Lib.hid hI
              replace hk0 := Lib.hid hk0
              go_upto_region 10 with fail
              go_region_law ((first
                | (refine step_copyA (by rfl) (.const (.slice none 0 0)) (.tmp 53) (by rfl) (by rfl) (by rfl) (rda_take (hR.out _ (by first | exact ((Mod.refl none_ w).drewN _).drew | exact ((Mod.refl none_ w).drewN _).drew.alloc _)) hk) (by omega) ?_; intro A1 c1 w1 ho1 h1m hf1; have hm1 : Mod none_ w w1 := Mod.trans (by first | exact ((Mod.refl none_ w).drewN _).drew | exact ((Mod.refl none_ w).drewN _).drew.alloc _) h1m; replace hf1 : Fresh w A1 := hf1.later (Mod.size (F := none_) (by first | exact ((Mod.refl none_ w).drewN _).drew | exact ((Mod.refl none_ w).drewN _).drew.alloc _)); have q1 : w1.cell? ⟨q, 0, none⟩ = some (.slice A C.length c) := hm1.cell_some hcell (fun h => h); have l1 := World.block_lt_of_cell? w1 _ q1; have qa1 : ∀ o, (w1.alloc o).cell? ⟨q, 0, none⟩ = some (.slice A C.length c) := fun o => (World.cell?_alloc_lt _ _ _ l1).trans q1; replace ho1 := Lib.hid ho1; replace h1m := Lib.hid h1m; replace hf1 := Lib.hid hf1; replace hm1 := Lib.hid hm1)
                | (refine step_appA (by rfl) (.tmp 54) (.tmp 58) (by rfl) (by rfl) (Ow.mod0 ho1.out ((Mod.refl none_ w1).alloc _)) (S := some ⟨w1.heap.size, 0, none⟩) (m := 1) (d := 1) (by rfl) (rda_one w1 _ ⟨s, 0, 0, x⟩) (by omega) ?_; intro A2 c2 w2 ho2 h2m hA2; have hm2 : Mod none_ w w2 := Mod.then (hm1.out.alloc _) h2m (fun i hi hf => by (obtain ⟨a, ha, rfl⟩ := hf; have := hf1.out a ha; omega)); have hf2 : Fresh w A2 := Fresh.app hf1.out (Mod.size (F := none_) (hm1.out.alloc _)) hA2; have q2 : w2.cell? ⟨q, 0, none⟩ = some (.slice A C.length c) := hm2.cell_some hcell (fun h => h); have l2 := World.block_lt_of_cell? w2 _ q2; replace ho2 := Lib.hid ho2; replace h2m := Lib.hid h2m; replace hA2 := Lib.hid hA2; replace hf2 := Lib.hid hf2; replace hm2 := Lib.hid hm2)
                | (refine step_appA (by rfl) (.tmp 54) (.tmp 58) (by rfl) (by rfl) ho1.out (S := some ⟨w.heap.size, 0, none⟩) (m := 1) (d := 1) (by rfl) (Rd.mod0 (rda_one (w.drewN m).drew _ ⟨s, 0, 0, x⟩) h1m.out) (by omega) ?_; intro A2 c2 w2 ho2 h2m hA2; have hm2 : Mod none_ w w2 := Mod.then hm1.out h2m (fun i hi hf => by (obtain ⟨a, ha, rfl⟩ := hf; have := hf1.out a ha; omega)); have hf2 : Fresh w A2 := Fresh.app hf1.out (Mod.size (F := none_) hm1.out) hA2; have q2 : w2.cell? ⟨q, 0, none⟩ = some (.slice A C.length c) := hm2.cell_some hcell (fun h => h); have l2 := World.block_lt_of_cell? w2 _ q2; replace ho2 := Lib.hid ho2; replace h2m := Lib.hid h2m; replace hA2 := Lib.hid hA2; replace hf2 := Lib.hid hf2; replace hm2 := Lib.hid hm2)
                | (refine step_appA (by rfl) (.tmp 59) (.tmp 65) (by rfl) (by rfl) ho2.out (by rfl) (rda_drop (hR.out _ hm2.out) hk hcn) (by omega) ?_; intro A3 c3 w3 ho3 h3m hA3; have hm3 : Mod none_ w w3 := Mod.then hm2.out h3m (fun i hi hf => by (obtain ⟨a, ha, rfl⟩ := hf; have := hf2.out a ha; omega)); have hf3 : Fresh w A3 := Fresh.app hf2.out hm2.out.size hA3; have hq3 := hq.out.mod hm3 (fun h => h); have q3 : w3.cell? ⟨q, 0, none⟩ = some (.slice A C.length c) := hq3.cell_ rfl; have z3 : w3.frozen? ⟨q, 0, none⟩ = false := hq3.frozen 0; have l3 := hq3.lt; replace ho3 := Lib.hid ho3; replace h3m := Lib.hid h3m; replace hA3 := Lib.hid hA3; replace hf3 := Lib.hid hf3; replace hm3 := Lib.hid hm3; replace hq3 := Lib.hid hq3)))
              all_goals
                go_wp2_with fail
                all_goals
                  go_ret
                  exact open_end hI.out hq3.out ho3.out hm3.out hf3.out hk hB
            · have d3 : decide ((0 : Int) < (k : Int)) = true := decide_eq_true (by omega)
              obtain ⟨j, hkj⟩ : ∃ j, k = j + 1 := ⟨k - 1, by omega⟩
              have hj : j < C.length := by omega
              have hcl := hrd.out k hk m
              rw [hbb] at hcl
              rw [show k - 1 = j by omega, List.getElem?_eq_getElem hj, Option.getD_some] at hcl
              obtain ⟨g, o, rfl, y1, -, -, -⟩ := rda_get (Ow.rd how.out) hj (by omega)
              clear hbb
              generalize C[j].n = yn at y1 hcl
              rw [show j = k - 1 by omega] at y1
              replace hall := Lib.hid hall
              replace hcl := Lib.hid hcl
              replace hI := Lib.hid hI
              replace hkj := Lib.hid hkj
              go_wp2_with fail
              refine hcl.out.mono ?_
              rintro e w1 ⟨rfl, m2, rfl⟩
              dsimp only
              clear hcl y1
              generalize (some ⟨g, o, none⟩ : Option Addr) = A at *
              rw [World.drewN_drewN]
              generalize m + m2 = m at *
              go_upto_region 10 with fail
              go_region_law ((first
                | (refine step_copyA (by rfl) (.const (.slice none 0 0)) (.tmp 53) (by rfl) (by rfl) (by rfl) (rda_take (hR.out _ (by first | exact ((Mod.refl none_ w).drewN _).drew | exact ((Mod.refl none_ w).drewN _).drew.alloc _)) hk) (by omega) ?_; intro A1 c1 w1 ho1 h1m hf1; have hm1 : Mod none_ w w1 := Mod.trans (by first | exact ((Mod.refl none_ w).drewN _).drew | exact ((Mod.refl none_ w).drewN _).drew.alloc _) h1m; replace hf1 : Fresh w A1 := hf1.later (Mod.size (F := none_) (by first | exact ((Mod.refl none_ w).drewN _).drew | exact ((Mod.refl none_ w).drewN _).drew.alloc _)); have q1 : w1.cell? ⟨q, 0, none⟩ = some (.slice A C.length c) := hm1.cell_some hcell (fun h => h); have l1 := World.block_lt_of_cell? w1 _ q1; have qa1 : ∀ o, (w1.alloc o).cell? ⟨q, 0, none⟩ = some (.slice A C.length c) := fun o => (World.cell?_alloc_lt _ _ _ l1).trans q1; replace ho1 := Lib.hid ho1; replace h1m := Lib.hid h1m; replace hf1 := Lib.hid hf1; replace hm1 := Lib.hid hm1)
                | (refine step_appA (by rfl) (.tmp 54) (.tmp 58) (by rfl) (by rfl) (Ow.mod0 ho1.out ((Mod.refl none_ w1).alloc _)) (S := some ⟨w1.heap.size, 0, none⟩) (m := 1) (d := 1) (by rfl) (rda_one w1 _ ⟨s, 0, 0, x⟩) (by omega) ?_; intro A2 c2 w2 ho2 h2m hA2; have hm2 : Mod none_ w w2 := Mod.then (hm1.out.alloc _) h2m (fun i hi hf => by (obtain ⟨a, ha, rfl⟩ := hf; have := hf1.out a ha; omega)); have hf2 : Fresh w A2 := Fresh.app hf1.out (Mod.size (F := none_) (hm1.out.alloc _)) hA2; have q2 : w2.cell? ⟨q, 0, none⟩ = some (.slice A C.length c) := hm2.cell_some hcell (fun h => h); have l2 := World.block_lt_of_cell? w2 _ q2; replace ho2 := Lib.hid ho2; replace h2m := Lib.hid h2m; replace hA2 := Lib.hid hA2; replace hf2 := Lib.hid hf2; replace hm2 := Lib.hid hm2)
                | (refine step_appA (by rfl) (.tmp 54) (.tmp 58) (by rfl) (by rfl) ho1.out (S := some ⟨w.heap.size, 0, none⟩) (m := 1) (d := 1) (by rfl) (Rd.mod0 (rda_one (w.drewN m).drew _ ⟨s, 0, 0, x⟩) h1m.out) (by omega) ?_; intro A2 c2 w2 ho2 h2m hA2; have hm2 : Mod none_ w w2 := Mod.then hm1.out h2m (fun i hi hf => by (obtain ⟨a, ha, rfl⟩ := hf; have := hf1.out a ha; omega)); have hf2 : Fresh w A2 := Fresh.app hf1.out (Mod.size (F := none_) hm1.out) hA2; have q2 : w2.cell? ⟨q, 0, none⟩ = some (.slice A C.length c) := hm2.cell_some hcell (fun h => h); have l2 := World.block_lt_of_cell? w2 _ q2; replace ho2 := Lib.hid ho2; replace h2m := Lib.hid h2m; replace hA2 := Lib.hid hA2; replace hf2 := Lib.hid hf2; replace hm2 := Lib.hid hm2)
                | (refine step_appA (by rfl) (.tmp 59) (.tmp 65) (by rfl) (by rfl) ho2.out (by rfl) (rda_drop (hR.out _ hm2.out) hk hcn) (by omega) ?_; intro A3 c3 w3 ho3 h3m hA3; have hm3 : Mod none_ w w3 := Mod.then hm2.out h3m (fun i hi hf => by (obtain ⟨a, ha, rfl⟩ := hf; have := hf2.out a ha; omega)); have hf3 : Fresh w A3 := Fresh.app hf2.out hm2.out.size hA3; have hq3 := hq.out.mod hm3 (fun h => h); have q3 : w3.cell? ⟨q, 0, none⟩ = some (.slice A C.length c) := hq3.cell_ rfl; have z3 : w3.frozen? ⟨q, 0, none⟩ = false := hq3.frozen 0; have l3 := hq3.lt; replace ho3 := Lib.hid ho3; replace h3m := Lib.hid h3m; replace hA3 := Lib.hid hA3; replace hf3 := Lib.hid hf3; replace hm3 := Lib.hid hm3; replace hq3 := Lib.hid hq3)))
              all_goals
                go_wp2_with fail
                all_goals
                  go_ret
                  exact open_end hI.out hq3.out ho3.out hm3.out hf3.out hk hB
end Go.Proofs.Ytaohgefpnndjcaa
