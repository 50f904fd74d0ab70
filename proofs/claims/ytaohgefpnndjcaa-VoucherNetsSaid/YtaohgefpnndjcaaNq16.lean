import Derived.Test.YtaohgefpnndjcaaNq1
import Derived.Test.YtaohgefpnndjcaaNq15
import Derived.Test.YtaohgefpnndjcaaNq13
import Derived.Test.YtaohgefpnndjcaaNq8
import Derived.Test.YtaohgefpnndjcaaNq14
import Derived.Test.YtaohgefpnndjcaaNq9
/-
  append as a step of the walk behind a guard that lets it run. No condition.
-/
namespace Go.Proofs.Ytaohgefpnndjcaa
set_option linter.unusedVariables false
open Go.RowKit
theorem wpList_append_owg {P : Program} {w : World} {ops : Array Oper} {rest : List Oper} {o : Oper} {a : Act} {Q : Exit → Act → World → Prop} (hw : Region.wanted o (yielded ops a.tmps) = true) (s x : Operand) (t : TypeId)
    (ho : o.op = .call { callee := .builtin .append, args := #[s, x], argTypes := #[t, t] })
    (e : TypeId) (i : TypeInfo) (z : Value) (size bytes : Nat) (ht : P.underlying t = some (.slice e)) (hi : P.info? e = some i) (hz : i.zero = some z)
    (hsize : i.size = size) (hby : i.bytes = bytes) (hzs : z.cells.size = size) (hsz : 0 < size)
    (A : Option Addr) (n c : Nat) (xs : List Value) (hs : a.eval s = .slice A n c) (hown : Ow w e size A n c xs)
    (S : Option Addr) (m d : Nat) (news : List Value) (hx : a.eval x = .slice S m d) (hr : Rd w size S m news) (h1 : ∀ u ∈ news, u.oneCell' = true)
    (hbytes : (n + m) * bytes ≤ 140737488355328) (h63 : n + m ≤ 9223372036854775807)
    (h : ∀ A' c' w', Ow w' e size A' (n + m) c' (xs ++ news) → Mod (fp A) w w' → (A' = A ∨ A' = some ⟨w.heap.size, 0, none⟩) → wpList P ops Q rest (a.put o.dst (.slice A' (n + m) c')) w') : wpList P ops Q (o :: rest) a w :=
  wpList_step fun _ hK => by
    rw [if_pos hw]
    exact wp_append_ow w s x t ho e i z size bytes ht hi hz hsize hby hzs hsz A n c xs hs hown S m d news hx hr h1 hbytes h63 fun A' c' w' h2 h3 h4 => hK _ _ (h A' c' w' h2 h3 h4)
theorem Mod.then_own {w w1 w2 : World} {A : Option Addr} (hm : Mod (fp none) w w1) (hA : A = none ∨ A = some ⟨w.heap.size, 0, none⟩) (hm2 : Mod (fp A) w1 w2) : Mod none_ w w2 := by
  refine (hm.mono (G := none_) ?_).then hm2 ?_
  · rintro i ⟨a, ha, _⟩; cases ha
  · rintro i hi ⟨a, ha, rfl⟩
    rcases hA with rfl | rfl
    · cases ha
    · cases ha; simp only at hi; omega
theorem Mod.nil_own {w w1 : World} (hm : Mod (fp none) w w1) : Mod none_ w w1 := hm.mono (G := none_) (by rintro i ⟨a, ha, _⟩; cases ha)
end Go.Proofs.Ytaohgefpnndjcaa
/-
  The reference's Net.
-/
namespace Go.Proofs.Ytaohgefpnndjcaa
set_option linter.unusedVariables false
open Go.RowKit
set_option maxRecDepth 100000 in
set_option maxHeartbeats 4000000 in
theorem rnet_ok (w : World) (G : Option Addr) (m d : Nat) (ss : List SV) (lls : List (List Lg)) (h : LegsAt w G m ss lls) (hm1 : m ≤ 1000) (hz : ∀ l ∈ lls.flatten, LgOk l) (hlen : lls.flatten.length ≤ 1000) :
    Calls Try.prog 24 #[.slice G m d] w (NetPost lls.flatten w) := by
  have hll := h.len
  have hpre : ∀ i, (lls.take i).flatten.length ≤ lls.flatten.length := fun i => by
    conv => rhs; rw [← List.take_append_drop i lls]
    rw [List.flatten_append, List.length_append]; omega
  replace h := Lib.hid h
  replace hz := Lib.hid hz
  replace hpre := Lib.hid hpre
  go_enter Try.func24, Try.ntmps24
  go_wp2_with fail
  go_loopw [4, 5] (fun v x wr => ∃ i : Nat, x = .int .i64 i ∧ i ≤ m ∧ ∃ N NA nc, v = .slice NA N.length nc ∧ NmRel w (lls.take i).flatten N NA nc wr) (fun _ x _ => m - (intOf x).toNat)
  case atStart => exact ⟨0, rfl, by omega, [], none, 0, rfl, Ow.nil _ _ _, (fun _ h => by cases h), List.Pairwise.nil, (fun s => by simp), Mod.refl _ _⟩
  case round =>
    obtain ⟨i, rfl, hi, N, NA, nc, rfl, hN⟩ := hrel
    by_cases hil : i < m
    ·--[[
      obtain ⟨w1, e1⟩ : ∃ W, W = wr := ⟨_, rfl⟩
      subst e1
      obtain ⟨g, o, B, k8, kc, l, rfl, y1, hjl, hB, hk9⟩ := (h.out.mod0 hN.2.2.2.2).get hil
      have hgl := World.block_lt_of_cell? w1 _ y1
      have hlenl := hB.len
      have hnx := (pre_succ hjl).1
      have hp1 := hpre.out (i + 1)
      rw [hnx, List.length_append, hlenl] at hp1
      have hlok : ∀ x ∈ l, LgOk x := fun x hx => hz.out x (List.mem_flatten.2 ⟨l, List.mem_of_getElem? hjl, hx⟩)
      have hpok : ∀ x ∈ (lls.take i).flatten, LgOk x := fun x hx => by
        obtain ⟨q, hq, hx⟩ := List.mem_flatten.1 hx
        exact hz.out x (List.mem_flatten.2 ⟨q, List.mem_of_mem_take hq, hx⟩)
      generalize (lls.take i).flatten = pl at *
      replace hN := Lib.hid hN
      replace hjl := Lib.hid hjl
      replace hB := Lib.hid hB
      replace hlenl := Lib.hid hlenl
      replace hnx := Lib.hid hnx
      replace hlok := Lib.hid hlok
      replace hpok := Lib.hid hpok
      go_wp2_with fail
      go_loopw [4, 6] (fun v x wr2 => ∃ k : Nat, x = .int .i64 k ∧ k ≤ k8 ∧ ∃ N NA nc, v = .slice NA N.length nc ∧ NmRel w (pl ++ l.take k) N NA nc wr2 ∧ Mod none_ w1 wr2) (fun _ x _ => k8 - (intOf x).toNat)
      case atStart => exact ⟨0, rfl, by omega, N, NA, nc, rfl, by rw [List.take_zero, List.append_nil]; exact hN.out, Mod.refl _ _⟩
      case round =>
        clear hN
        obtain ⟨k, rfl, hk, N, NA, nc, rfl, hN, hmk⟩ := hrel
        have q1 := hmk.cell_some y1 (fun h => h)
        by_cases hkl : k < k8
        · obtain ⟨g2, o2, x, rfl, hmem, hxl, x1, x2⟩ := rdl_get (hB.out.mod0 hmk) hkl
          have hgl2 := World.block_lt_of_cell? wr _ x1
          have hgl3 := World.block_lt_of_cell? wr _ q1
          have htk : l.take (k + 1) = l.take k ++ [x] := by
            have hjl2 : k < l.length := by rw [hlenl.out]; omega
            rw [List.getElem?_eq_getElem hjl2] at hxl
            injection hxl with hxl
            rw [List.take_succ_eq_append_getElem hjl2, hxl]
          have hNl := hN.few
          have hlt8 : (l.take k).length ≤ k := by rw [List.length_take]; omega
          rw [List.length_append] at hNl
          have hN1 : N.length ≤ 1000 := by omega
          obtain ⟨s, hs⟩ : ∃ s, x.n = s := ⟨_, rfl⟩
          rw [hs] at x1
          have hsl : s.length ≤ 9223372036854775807 := by
            have := (hlok.out x hmem).1
            rw [hs, txt_size'] at this
            simpa [maxLen] using this
          have hNs : ∀ t ∈ N, t.length ≤ 9223372036854775807 := fun t ht => by
            obtain ⟨y, hy, rfl⟩ := (hN.2.2.2.1 t).1 ht
            have : LgOk y := by
              rcases List.mem_append.1 hy with hy | hy
              · exact hpok.out y hy
              · exact hlok.out y (List.mem_of_mem_take hy)
            have := this.1
            rw [txt_size'] at this
            simpa [maxLen] using this
          have hah := Lib.hid (fun (j : Nat) W => aheadL_ok W s (N[j]?.getD []) hsl (by
            cases hh : N[j]? with
            | none => exact Nat.zero_le _
            | some a => exact hNs a (List.mem_of_getElem? hh)))
          have hrdN := Lib.hid (show RdN wr NA N.length N from Ow.rd hN.1)
          clear hNs hNl hlt8
          replace hN := Lib.hid hN
          replace hmk := Lib.hid hmk
          replace hmem := Lib.hid hmem
          replace hxl := Lib.hid hxl
          replace htk := Lib.hid htk
          replace hs := Lib.hid hs
          go_wp2_with fail
          go_loopw [7] (fun x wr3 => ∃ j : Nat, x = .int .i64 j ∧ j ≤ N.length ∧ (∀ t (ht : t < N.length), j ≤ t → bytesBefore s N[t] = true) ∧ ∃ z, wr3 = wr.drewN z) (fun x _ => (intOf x).toNat)
          case atStart => exact ⟨N.length, rfl, by omega, fun t ht h => absurd h (by omega), 0, rfl⟩
          case round =>
            obtain ⟨j, rfl, hj, hall, z, rfl⟩ := hrel
            obtain ⟨wd, hwd⟩ : ∃ W, wr.drewN z = W := ⟨_, rfl⟩
            have u1 : wd.cell? ⟨g, o + i, none⟩ = some (.slice (some ⟨g2, o2, none⟩) k8 kc) := by rw [← hwd]; exact q1
            have u2 : wd.cell? ⟨g2, o2 + k * 2, none⟩ = some (.string (txt s)) := by rw [← hwd]; exact x1
            have hNd := Lib.hid (hN.out.drewN z)
            have hmd := Lib.hid (hmk.out.drewN z)
            have hrd := Lib.hid (show RdN wd NA N.length N from by rw [← hwd]; exact Rd.mod0 hrdN.out ((Mod.refl none_ _).drewN z))
            rw [hwd] at hNd hmd ⊢
            replace hall := Lib.hid hall
            replace hwd := Lib.hid hwd
            go_upto_region 9 with fail
            go_cut [49] from 32 to 49 (fun v W => v = .bool (decide (0 < j) && bytesBefore s (N[j-1]?.getD [])) ∧ ∃ z, W = wd.drewN z)
            case first =>
              by_cases hj0 : j = 0
              · subst hj0
                have d0 : decide ((0 : Int) < ((0 : Nat) : Int)) = false := rfl
                go_wp2_with fail
                go_quiet (fail)
                go_wp2_with fail
                go_meet
                exact ⟨rfl, _, rfl⟩
              · obtain ⟨r, rfl⟩ : ∃ r, j = r + 1 := ⟨j - 1, by omega⟩
                have hrl : r < N.length := by omega
                obtain ⟨b3, o3, rfl, hrl2, v1⟩ := rdn_at hrd.out hrl
                have ha := hah.out r
                rw [List.getElem?_eq_getElem hrl, Option.getD_some] at ha
                have d0 : (decide (0 < r + 1) && bytesBefore s (N[r+1-1]?.getD [])) = bytesBefore s N[r] := by rw [decide_eq_true (by omega), Bool.true_and, Nat.add_sub_cancel, List.getElem?_eq_getElem hrl, Option.getD_some]
                have d3 : decide ((0 : Int) < ((r + 1 : Nat) : Int)) = true := decide_eq_true (by omega)
                have hw1 : wrap64 ((↑(r + 1) : Int) - 1) = (r : Int) := by unfold wrap64; omega
                have hw2 : wrap64 ((r : Int) + 1 - 1) = (r : Int) := by unfold wrap64; omega
                generalize N[r] = yn at *
                replace ha := Lib.hid ha
                replace d0 := Lib.hid d0
                go_wp2_with fail
                go_quiet ((go_at_call 50; exact Calls.quiet_of (ha.out _)))
                go_wp2_with fail
                go_meet
                exact ⟨by rw [d0.out], _, rfl⟩
            case rest =>
              obtain ⟨rfl, z2, hz2⟩ := hcut
              have hNc := Lib.hid (hNd.out.drewN z2)
              have hmc := Lib.hid (hmd.out.drewN z2)
              have hrc := Lib.hid (show RdN wc NA N.length N from by rw [hz2]; exact Rd.mod0 hrd.out ((Mod.refl none_ _).drewN z2))
              have u1c : wc.cell? ⟨g, o + i, none⟩ = some (.slice (some ⟨g2, o2, none⟩) k8 kc) := by rw [hz2]; exact u1
              have u2c : wc.cell? ⟨g2, o2 + k * 2, none⟩ = some (.string (txt s)) := by rw [hz2]; exact u2
              have hwc : ∃ z, wc = wr.drewN z := ⟨_, by rw [hz2, ← hwd.out, World.drewN_drewN]⟩
              rw [← hz2] at hNc hmc
              clear hNd hmd hrd u1 u2
              replace hz2 := Lib.hid hz2
              replace hwc := Lib.hid hwc
              obtain ⟨cnd, hcnd⟩ : ∃ c, (decide (0 < j) && bytesBefore s (N[j-1]?.getD [])) = c := ⟨_, rfl⟩
              rw [hcnd]
              cases cnd with
              | true =>
                obtain ⟨r, rfl⟩ : ∃ r, j = r + 1 := ⟨j - 1, by cases j with | zero => simp at hcnd | succ r => simp⟩
                have hw1 : wrap64 ((↑(r + 1) : Int) - 1) = (r : Int) := by unfold wrap64; omega
                have hw2 : wrap64 ((r : Int) + 1 - 1) = (r : Int) := by unfold wrap64; omega
                have hnx : ∀ t (ht : t < N.length), r ≤ t → bytesBefore s N[t] = true := fun t ht h => by
                  by_cases e : t = r
                  · subst e
                    rw [Nat.add_sub_cancel, List.getElem?_eq_getElem ht, Option.getD_some] at hcnd
                    simp at hcnd; exact hcnd
                  · exact hall.out t ht (by omega)
                replace hcnd := Lib.hid hcnd
                replace hnx := Lib.hid hnx
                go_wp2_with fail
                go_roundw
                case rel => obtain ⟨zz, hzz⟩ := hwc.out; exact ⟨r, by go_num, by omega, hnx.out, zz, hzz⟩
                case measure => simp [intOf]
              | false =>
                replace hcnd := Lib.hid hcnd
                obtain ⟨wq, e1⟩ : ∃ W, W = wc := ⟨_, rfl⟩
                subst e1
                go_upto_region 11 with fail
                go_cut [69] from 52 to 69 (fun v W => v = .bool (decide (j = 0) || !(N[j-1]?.getD [] == s)) ∧ ∃ z, W = wq.drewN z)
                case first =>
                  by_cases hj0 : j = 0
                  · subst hj0
                    go_wp2_with fail
                    go_quiet (fail)
                    go_wp2_with fail
                    go_meet
                    exact ⟨rfl, _, rfl⟩
                  · obtain ⟨r, rfl⟩ : ∃ r, j = r + 1 := ⟨j - 1, by omega⟩
                    have hrl : r < N.length := by omega
                    obtain ⟨b3, o3, rfl, hrl2, v1⟩ := rdn_at hrc.out hrl
                    have d0 : (decide (r + 1 = 0) || !(N[r+1-1]?.getD [] == s)) = !(N[r] == s) := by rw [decide_eq_false (by omega), Bool.false_or, Nat.add_sub_cancel, List.getElem?_eq_getElem hrl, Option.getD_some]
                    have d3 : (((r + 1 : Nat) : Int) == 0) = false := by rw [beq_eq_false_iff_ne]; omega
                    have d4 : (((r : Nat) : Int) + 1 == 0) = false := by rw [beq_eq_false_iff_ne]; omega
                    have hw1 : wrap64 ((↑(r + 1) : Int) - 1) = (r : Int) := by unfold wrap64; omega
                    have hw2 : wrap64 ((r : Int) + 1 - 1) = (r : Int) := by unfold wrap64; omega
                    generalize N[r] = yn at *
                    replace d0 := Lib.hid d0
                    go_wp2_with fail
                    go_quiet (fail)
                    go_wp2_with fail
                    go_meet
                    exact ⟨by rw [d0.out] <;> rfl, _, rfl⟩
                case rest =>
                  obtain ⟨rfl, z3, hz3⟩ := hcut
                  have hNe := hNc.out.drewN z3
                  have hme := Lib.hid (hmc.out.drewN z3)
                  have u1e : wc.cell? ⟨g, o + i, none⟩ = some (.slice (some ⟨g2, o2, none⟩) k8 kc) := by rw [hz3]; exact u1c
                  have u2e : wc.cell? ⟨g2, o2 + k * 2, none⟩ = some (.string (txt s)) := by rw [hz3]; exact u2c
                  rw [← hz3] at hNe hme
                  clear hNc hmc hrc u1c u2c hz2 hwc
                  replace hz3 := Lib.hid hz3
                  obtain ⟨cnd2, hcnd2⟩ : ∃ c, (decide (j = 0) || !(N[j-1]?.getD [] == s)) = c := ⟨_, rfl⟩
                  rw [hcnd2]
                  have hlk : pl ++ l.take (k + 1) = (pl ++ l.take k) ++ [x] := by rw [htk.out, List.append_assoc]
                  cases cnd2 with
                  | true =>
                    have hdec : j = 0 ∨ (bytesBefore s (N[j-1]?.getD []) = false ∧ (N[j-1]?.getD [] == s) = false) := by
                      by_cases hj0 : j = 0
                      · exact .inl hj0
                      · have h1 := hcnd.out
                        rw [decide_eq_true (show 0 < j by omega), Bool.true_and] at h1
                        rw [decide_eq_false hj0, Bool.false_or] at hcnd2
                        exact .inr ⟨h1, by simpa using hcnd2⟩
                    have hsn := insN_sorted hNe.2.2.1 hj hall.out hdec
                    have hmn := mem_snoc (x := x) hNe.2.2.2.1 (M := N.take j ++ [s] ++ N.drop j) (fun t => by rw [insN_mem, hs.out])
                    have hln : (N.take j ++ [s] ++ N.drop j).length = N.length + 1 := by simp; omega
                    have hc4 : N.length ≤ nc := hNe.1.2.1
                    have hc5 : nc ≤ 9223372036854775807 := hNe.1.2.2.1
                    have v0 : (0 : Int) ≤ (j : Int) := by omega
                    have v1 : (j : Int) ≤ (N.length : Int) := by omega
                    have v2 : (N.length : Int) ≤ (nc : Int) := by omega
                    have v3 : (j : Int) ≤ (nc : Int) := by omega
                    have hd1 := Lib.hid (fun W (h : Mod none_ wc W) => rdn_take (show RdN W NA N.length N from Ow.rd (Ow.mod0 hNe.1 h)) hj)
                    have hd2 := Lib.hid (fun W (h : Mod none_ wc W) => rdn_drop (show RdN W NA N.length N from Ow.rd (Ow.mod0 hNe.1 h)) hj hc4)
                    have hg1 := World.block_lt_of_cell? wc _ u1e
                    have hg2 := World.block_lt_of_cell? wc _ u2e
                    have htk1 : (N.take j).length = j := by rw [List.length_take]; omega
                    have htk2 : (N.drop j).length = N.length - j := by rw [List.length_drop]
                    have hmw := hNe.2.2.2.2
                    replace hNe := Lib.hid hNe
                    replace hcnd2 := Lib.hid hcnd2
                    replace hdec := Lib.hid hdec
                    replace hsn := Lib.hid hsn
                    replace hmn := Lib.hid hmn
                    replace hln := Lib.hid hln
                    replace hlk := Lib.hid hlk
                    replace hmw := Lib.hid hmw
                    replace htk1 := Lib.hid htk1
                    replace htk2 := Lib.hid htk2
                    go_upto_region 12 with fail
                    go_region_law ((first
                      | (refine step_appN (by rfl) (.const (.slice none 0 0)) (.tmp 72) (by rfl) (A := none) (n := 0) (c := 0) (xs := []) (S := NA) (m := j) (d := nc) (news := N.take j) (by kernel_rfl) (Ow.nil _ _ _) (by kernel_rfl) (hd1.out _ (by first | exact (Mod.refl _ _).drew | exact ((Mod.refl _ _).alloc _).drew)) (by omega) ?_; rw [Nat.zero_add, List.nil_append]; intro A3 c3 w3 ho3 hm3 hA3; have hm33 : Mod none_ wc w3 := (by first | exact (Mod.refl none_ wc).drew.trans (Mod.nil_own hm3) | exact (((Mod.refl none_ wc).alloc _).drew).trans (Mod.nil_own hm3)); have hf3 : Fresh wc A3 := fresh_new hA3 (by simp); have p1 := hm33.cell_some u1e (fun h => h); have p2 := hm33.cell_some u2e (fun h => h); replace ho3 := Lib.hid ho3; replace hm3 := Lib.hid hm3; replace hA3 := Lib.hid hA3; replace hm33 := Lib.hid hm33; replace hf3 := Lib.hid hf3)
                      | (refine step_appN (by rfl) (.tmp 73) (.tmp 82) (by rfl) (A := A3) (n := j) (c := c3) (xs := N.take j) (S := some ⟨w3.heap.size, 0, none⟩) (m := 1) (d := 1) (news := [s]) (by kernel_rfl) (Ow.mod0 ho3.out ((Mod.refl _ _).alloc _)) (by kernel_rfl) (rdn_one w3 _ _ rfl s) (by omega) ?_; intro A4 c4 w4 ho4 hm4 hA4; have hm44 : Mod none_ wc w4 := Mod.app (hm33.out.alloc _) hf3.out hm4; have hf4 : Fresh wc A4 := Fresh.app hf3.out (hm33.out.alloc _).size hA4; replace ho4 := Lib.hid ho4; clear hm4 hA4; replace hm44 := Lib.hid hm44; replace hf4 := Lib.hid hf4)
                      | (refine step_appN (by rfl) (.tmp 73) (.tmp 82) (by rfl) (A := A3) (n := j) (c := c3) (xs := N.take j) (S := some ⟨wc.heap.size, 0, none⟩) (m := 1) (d := 1) (news := [s]) (by kernel_rfl) ho3.out (by kernel_rfl) (Rd.mod0 (rdn_one wc 9 _ rfl s) ((Mod.refl none_ _).drew.trans (Mod.nil_own hm3.out))) (by omega) ?_; intro A4 c4 w4 ho4 hm4 hA4; have hm44 : Mod none_ wc w4 := Mod.app hm33.out hf3.out hm4; have hf4 : Fresh wc A4 := Fresh.app hf3.out hm33.out.size hA4; replace ho4 := Lib.hid ho4; clear hm4 hA4; replace hm44 := Lib.hid hm44; replace hf4 := Lib.hid hf4)
                      | (refine step_appN (by rfl) (.tmp 83) (.tmp 86) (by rfl) (A := A4) (n := j + 1) (c := c4) (xs := N.take j ++ [s]) (S := if nc = j then NA else Option.map (fun x => x.add j) NA) (m := N.length - j) (d := nc - j) (news := N.drop j) (by kernel_rfl) ho4.out (by kernel_rfl) (hd2.out _ hm44.out) (by omega) ?_; rw [show j + 1 + (N.length - j) = N.length + 1 by omega]; intro A5 c5 w5 ho5 hm5 hA5; have hm55 : Mod none_ wc w5 := Mod.app hm44.out hf4.out hm5; have hf5 : Fresh wc A5 := Fresh.app hf4.out hm44.out.size hA5; replace ho5 := Lib.hid ho5; clear hm5 hA5; replace hm55 := Lib.hid hm55; replace hf5 := Lib.hid hf5)))
                    all_goals
                      generalize (if nc = j then NA else Option.map (fun x => x.add j) NA) = LL
                      go_wp2_with fail
                      go_roundw
                      case rel => exact ⟨k + 1, by go_num, by omega, N.take j ++ [s] ++ N.drop j, A5, c5, by rw [hln.out], ⟨by rw [hln.out]; exact ho5.out, hf5.out.later hmw.out.size, hsn.out, by rw [hlk.out]; exact hmn.out, hmw.out.trans hm55.out⟩, hme.out.trans hm55.out⟩
                      case measure => simp [intOf]; omega
                  | false =>
                    have hj0 : j ≠ 0 := fun h => by rw [h] at hcnd2; simp at hcnd2
                    have hsN : s ∈ N := by
                      have hjl : j - 1 < N.length := by omega
                      rw [decide_eq_false hj0, Bool.false_or, List.getElem?_eq_getElem hjl, Option.getD_some] at hcnd2
                      have : N[j-1] = s := by simpa using hcnd2
                      rw [← this]; exact List.getElem_mem hjl
                    have hmn := mem_snoc (x := x) hNe.2.2.2.1 (M := N) (fun t => by
                      constructor
                      · exact fun h => .inl h
                      · rintro (h | h)
                        · exact h
                        · rw [h, hs.out]; exact hsN)
                    replace hNe := Lib.hid hNe
                    replace hcnd2 := Lib.hid hcnd2
                    replace hlk := Lib.hid hlk
                    replace hmn := Lib.hid hmn
                    replace hsN := Lib.hid hsN
                    go_wp2_with fail
                    go_roundw
                    case rel => exact ⟨k + 1, by go_num, by omega, N, NA, nc, rfl, ⟨hNe.out.1, hNe.out.2.1, hNe.out.2.2.1, by rw [hlk.out]; exact hmn.out, hNe.out.2.2.2.2⟩, hme.out⟩
                    case measure => simp [intOf]; omega
        · have hfull : l.take k = l := List.take_of_length_le (by rw [hlenl.out]; omega)
          rw [hfull, ← hnx.out] at hN
          replace hN := Lib.hid hN
          replace hmk := Lib.hid hmk
          replace hfull := Lib.hid hfull
          go_wp2_with fail
          go_roundw
          case rel => exact ⟨i + 1, by go_num, by omega, N, NA, nc, rfl, hN.out⟩
          case measure => simp [intOf]; omega
      --]]
    · obtain ⟨w2, e1⟩ : ∃ W, W = wr := ⟨_, rfl⟩
      subst e1
      have hfull : lls.take i = lls := List.take_of_length_le (by rw [hll]; omega)
      rw [hfull] at hN
      obtain ⟨fl, hfl⟩ : ∃ f, lls.flatten = f := ⟨_, rfl⟩
      rw [hfl] at hN hlen ⊢
      have hNl := hN.few
      have hN1 : N.length ≤ 1000 := by omega
      obtain ⟨hNo, hNf, hNs, hNm, hNmd⟩ := hN
      have hrN := Lib.hid (show RdN w2 NA N.length N from Ow.rd hNo)
      have hh2 := Lib.hid (h.out.mod0 hNmd)
      have hsz2 := hNmd.size
      have hzf : ∀ x ∈ fl, LgOk x := by rw [← hfl]; exact hz.out
      have hpf : ∀ i, (lls.take i).flatten.length ≤ fl.length := by rw [← hfl]; exact hpre.out
      clear hNo hNf
      replace hfull := Lib.hid hfull
      replace hfl := Lib.hid hfl
      replace hNs := Lib.hid hNs
      replace hNm := Lib.hid hNm
      replace hNmd := Lib.hid hNmd
      replace hzf := Lib.hid hzf
      replace hpf := Lib.hid hpf
      go_wp2_with fail
      go_loopw [8, 9] (fun v x wr => ∃ q : Nat, x = .int .i64 q ∧ q ≤ N.length ∧ ∃ A' c', v = .slice A' (outL fl (N.take q)).length c' ∧ OwL wr A' (outL fl (N.take q)).length c' (outL fl (N.take q)) ∧ Fresh w2 A' ∧ (∀ s ∈ N.take q, inI (isum (sumsOf fl s)) = true) ∧ Mod none_ w2 wr) (fun _ x _ => N.length - (intOf x).toNat)
      case atStart => exact ⟨0, rfl, by omega, none, 0, rfl, Ow.nil _ _ _, (fun _ h => by cases h), (fun s h => by cases h), Mod.refl _ _⟩
      case round =>
        obtain ⟨q, rfl, hq, A', c', rfl, how, hf, hall, hm⟩ := hrel
        obtain ⟨w3, e1⟩ : ∃ W, W = wr := ⟨_, rfl⟩
        subst e1
        by_cases hql : q < N.length
        · obtain ⟨b3, o3, rfl, hql2, hc⟩ := rdn_at (Rd.mod0 hrN.out hm) hql
          have htk : N.take (q + 1) = N.take q ++ [N[q]] := by rw [List.take_succ_eq_append_getElem hql]
          have hmem : N[q] ∈ N := List.getElem_mem hql
          generalize N[q] = s at hc htk hmem
          have hh3 := Lib.hid (hh2.out.mod0 hm)
          have hout := outL_snoc fl (N.take q) s
          rw [← htk] at hout
          have hall2 : inI (isum (sumsOf fl s)) = true → ∀ y ∈ N.take (q + 1), inI (isum (sumsOf fl y)) = true := fun h0 y hy => by
            rw [htk, List.mem_append] at hy
            rcases hy with hy | hy
            · exact hall y hy
            · simp at hy; rw [hy]; exact h0
          have hbad : inI (isum (sumsOf fl s)) = false → ∃ s ∈ N, inI (isum (sumsOf fl s)) = false := fun h0 => ⟨s, hmem, h0⟩
          have hsl : ∀ p : List Lg, p.length ≤ fl.length → (sumsOf p s).length ≤ 1000 := fun p hp => by
            unfold sumsOf
            rw [List.length_map]
            have := List.length_filter_le (fun m : Lg => m.n == s) p
            omega
          have hIs : I64s (sumsOf fl s) := by
            intro y hy
            unfold sumsOf at hy
            obtain ⟨m, hm', rfl⟩ := List.mem_map.1 hy
            exact (hzf.out m (List.mem_filter.1 hm').1).2
          have hol : (outL fl (N.take q)).length ≤ 1000 := by
            unfold outL
            rw [List.length_map]
            have := List.length_filter_le (fun s => !(isum (sumsOf fl s) == 0)) (N.take q)
            rw [List.length_take] at this
            omega
          obtain ⟨ol, holl⟩ : ∃ n, (outL fl (N.take q)).length = n := ⟨_, rfl⟩
          rw [holl] at how hol ⊢
          replace how := Lib.hid how
          replace hf := Lib.hid hf
          replace hall := Lib.hid hall
          replace hm := Lib.hid hm
          replace htk := Lib.hid htk
          replace hmem := Lib.hid hmem
          replace hout := Lib.hid hout
          replace hall2 := Lib.hid hall2
          replace hbad := Lib.hid hbad
          replace hsl := Lib.hid hsl
          replace hIs := Lib.hid hIs
          replace holl := Lib.hid holl
          go_wp2_with fail
          go_loopw [10, 11] (fun v x wr => ∃ i : Nat, x = .int .i64 i ∧ i ≤ m ∧ ∃ B' d', v = .slice B' (sumsOf (lls.take i).flatten s).length d' ∧ OwI wr B' (sumsOf (lls.take i).flatten s).length d' (sumsOf (lls.take i).flatten s) ∧ Fresh w3 B' ∧ Mod none_ w3 wr) (fun _ x _ => m - (intOf x).toNat)
          case atStart => exact ⟨0, rfl, by omega, none, 0, rfl, Ow.nil _ _ _, (fun _ h => by cases h), Mod.refl _ _⟩
          case round =>
            obtain ⟨i, rfl, hi, B', d', rfl, hob, hfb, hmb⟩ := hrel
            obtain ⟨w4, e1⟩ : ∃ W, W = wr := ⟨_, rfl⟩
            subst e1
            by_cases hil : i < m
            · obtain ⟨g, o, B, k8, kc, l, rfl, y1, hjl, hB, hk9⟩ := hh3.out.get hil
              have y14 := hmb.cell_some y1 (fun h => h)
              have hgl := World.block_lt_of_cell? w4 _ y14
              have hlenl := hB.len
              have hnx := (pre_succ hjl).1
              have hp1 := hpf.out (i + 1)
              rw [hnx, List.length_append, hlenl] at hp1
              generalize (lls.take i).flatten = pl at *
              obtain ⟨sn, hsn⟩ : ∃ n, (sumsOf pl s).length = n := ⟨_, rfl⟩
              replace hob := Lib.hid hob
              replace hfb := Lib.hid hfb
              replace hmb := Lib.hid hmb
              replace hjl := Lib.hid hjl
              replace hB := Lib.hid hB
              replace hlenl := Lib.hid hlenl
              replace hnx := Lib.hid hnx
              replace hsn := Lib.hid hsn
              go_wp2_with fail
              go_loopw [10, 12] (fun v x wr => ∃ k : Nat, x = .int .i64 k ∧ k ≤ k8 ∧ ∃ B' d', v = .slice B' (sumsOf (pl ++ l.take k) s).length d' ∧ OwI wr B' (sumsOf (pl ++ l.take k) s).length d' (sumsOf (pl ++ l.take k) s) ∧ Fresh w3 B' ∧ Mod none_ w3 wr) (fun _ x _ => k8 - (intOf x).toNat)
              case atStart => exact ⟨0, rfl, by omega, B', d', by rw [List.take_zero, List.append_nil], by rw [List.take_zero, List.append_nil]; exact hob.out, hfb.out, hmb.out⟩
              case round =>
                clear hob hfb
                obtain ⟨k, rfl, hk, B', d', rfl, hob, hfb, hmk⟩ := hrel
                have q1 := hmk.cell_some y1 (fun h => h)
                by_cases hkl : k < k8
                · obtain ⟨g2, o2, x, rfl, hmem2, hxl, x1, x2⟩ := rdl_get (hB.out.mod0 hmk) hkl
                  have q2 := hmk.cell_some hc (fun h => h)
                  have htk2 : l.take (k + 1) = l.take k ++ [x] := by
                    have hjl2 : k < l.length := by rw [hlenl.out]; omega
                    rw [List.getElem?_eq_getElem hjl2] at hxl
                    injection hxl with hxl
                    rw [List.take_succ_eq_append_getElem hjl2, hxl]
                  have hst := sums_snoc (pl ++ l.take k) x s
                  rw [List.append_assoc, ← htk2] at hst
                  have hlb := hsl.out (pl ++ l.take k) (by rw [List.length_append, List.length_take]; omega)
                  obtain ⟨sn2, hsn2⟩ : ∃ n, (sumsOf (pl ++ l.take k) s).length = n := ⟨_, rfl⟩
                  rw [hsn2] at hob hlb ⊢
                  obtain ⟨xn, hxn⟩ : ∃ v, x.n = v := ⟨_, rfl⟩
                  obtain ⟨xx, hxx⟩ : ∃ v, x.x = v := ⟨_, rfl⟩
                  rw [hxn] at x1 hst
                  rw [hxx] at x2 hst
                  replace hob := Lib.hid hob
                  replace hfb := Lib.hid hfb
                  replace hmk := Lib.hid hmk
                  replace hmem2 := Lib.hid hmem2
                  replace hxl := Lib.hid hxl
                  replace htk2 := Lib.hid htk2
                  replace hst := Lib.hid hst
                  replace hsn2 := Lib.hid hsn2
                  replace hxn := Lib.hid hxn
                  replace hxx := Lib.hid hxx
                  go_upto_region 24 with fail
                  go_cut [121] from 109 to 121 (fun v W => v = .bool (xn == s) ∧ ∃ z, W = wr.drewN z)
                  case first =>
                    go_wp2_with fail
                    go_quiet (fail)
                    go_wp2_with fail
                    go_meet
                    exact ⟨rfl, _, rfl⟩
                  case rest =>
                    obtain ⟨rfl, z2, hz2⟩ := hcut
                    have u1 : wc.cell? ⟨g, o + i, none⟩ = some (.slice (some ⟨g2, o2, none⟩) k8 kc) := by rw [hz2]; exact q1
                    have u2 : wc.cell? ⟨g2, o2 + k * 2 + 1, none⟩ = some (.int .i64 xx) := by rw [hz2]; exact x2
                    have hob2 := Lib.hid (show OwI wc B' sn2 d' (sumsOf (pl ++ l.take k) s) from by rw [hz2]; exact Ow.mod0 hob.out ((Mod.refl none_ _).drewN z2))
                    have hmk2 := Lib.hid (show Mod none_ w3 wc from by rw [hz2]; exact hmk.out.drewN z2)
                    clear hob hmk q1 q2 x1 x2
                    have hg1 := World.block_lt_of_cell? wc _ u1
                    have hg2 := World.block_lt_of_cell? wc _ u2
                    replace hz2 := Lib.hid hz2
                    cases hxs : (xn == s) with
                    | true =>
                      have hst2 := hst.out
                      rw [if_pos (by simpa using hxs)] at hst2
                      replace hst2 := Lib.hid hst2
                      replace hxs := Lib.hid hxs
                      go_wp2_with (at_builtin; go_loud (refine app64 rfl (.tmp 122) (.tmp 131) rfl rfl (Ow.mod0 hob2.out ((Mod.refl none_ _).alloc _)) rfl (rdi_one' wc _ _ rfl xx) (by omega) ?_; intro B2 c2 w6 ho2 hm2 hA2; replace ho2 := Lib.hid ho2; replace hm2 := Lib.hid hm2; replace hA2 := Lib.hid hA2))
                      go_roundw
                      case rel =>
                        have hl2 : (sumsOf (pl ++ l.take (k + 1)) s).length = sn2 + 1 := by rw [hst2.out, List.length_append, hsn2.out]; rfl
                        refine ⟨k + 1, by go_num, by omega, B2, c2, by rw [hl2], ?_, Fresh.app hfb.out (hmk2.out.alloc _).size hA2.out, Mod.app (hmk2.out.alloc _) (hfb.out) hm2.out⟩
                        rw [hl2, hst2.out]; exact ho2.out
                      case measure => simp [intOf]; omega
                    | false =>
                      have hst2 := hst.out
                      rw [if_neg (by simpa using hxs)] at hst2
                      replace hst2 := Lib.hid hst2
                      replace hxs := Lib.hid hxs
                      go_wp2_with fail
                      go_roundw
                      case rel =>
                        refine ⟨k + 1, by go_num, by omega, B', d', by rw [hst2.out, hsn2.out], ?_, hfb.out, hmk2.out⟩
                        rw [hst2.out, hsn2.out]; exact hob2.out
                      case measure => simp [intOf]; omega
                · have hfull : l.take k = l := List.take_of_length_le (by rw [hlenl.out]; omega)
                  rw [hfull, ← hnx.out] at hob ⊢
                  obtain ⟨sn2, hsn2⟩ : ∃ n, (sumsOf (lls.take (i + 1)).flatten s).length = n := ⟨_, rfl⟩
                  rw [hsn2] at hob ⊢
                  replace hob := Lib.hid hob
                  replace hfb := Lib.hid hfb
                  replace hmk := Lib.hid hmk
                  replace hfull := Lib.hid hfull
                  replace hsn2 := Lib.hid hsn2
                  go_wp2_with fail
                  go_roundw
                  case rel => exact ⟨i + 1, by go_num, by omega, B', d', by rw [hsn2.out], by rw [hsn2.out]; exact hob.out, hfb.out, hmk.out⟩
                  case measure => simp [intOf]; omega
            · have hfull3 : lls.take i = lls := List.take_of_length_le (by rw [hll]; omega)
              rw [hfull3, hfl.out] at hob ⊢
              have hls := hsl.out fl (Nat.le_refl _)
              have ct := Lib.hid (rtotal_ok w4 B' (sumsOf fl s).length d' (sumsOf fl s) (Ow.rd hob) (by omega) hIs.out)
              unfold SPost at ct
              have ha2' := hall2.out
              have hb2' := hbad.out
              have hout' := hout.out
              obtain ⟨sn2, hsn2⟩ : ∃ n, (sumsOf fl s).length = n := ⟨_, rfl⟩
              rw [hsn2] at hob ct ⊢
              have how4 := Lib.hid (show OwL w4 A' ol c' (outL fl (N.take q)) from Ow.mod0 how.out hmb)
              have hm4 := Lib.hid (hm.out.trans hmb)
              have hc4 := hmb.cell_some hc (fun h => h)
              generalize isum (sumsOf fl s) = t at *
              cases hti : inI t with
              | false =>
                rw [sumR_no hti] at ct
                have hb2 := hb2' hti
                clear hb2' ha2'
                replace hob := Lib.hid hob
                replace hfb := Lib.hid hfb
                replace hmb := Lib.hid hmb
                replace hfull3 := Lib.hid hfull3
                replace hb2 := Lib.hid hb2
                replace hti := Lib.hid hti
                replace hout' := Lib.hid hout'
                replace hsn2 := Lib.hid hsn2
                go_wp2_with fail
                refine ct.out.mono ?_
                rintro e w5 ⟨rfl, hm5⟩
                dsimp only
                replace hm5 := Lib.hid hm5
                go_wp2_with fail
                go_ret2
                rw [hfl.out]
                exact ⟨N, hNs.out, hNm.out, hNmd.out.trans (hm4.out.trans hm5.out), .inr ⟨hb2.out, rfl⟩⟩
              | true =>
                rw [sumR_yes hti] at ct
                have ha2 := ha2' hti
                clear hb2' ha2'
                by_cases ht0 : t = 0
                · subst ht0
                  rw [if_pos rfl] at hout'
                  replace hob := Lib.hid hob
                  replace hfb := Lib.hid hfb
                  replace hmb := Lib.hid hmb
                  replace hfull3 := Lib.hid hfull3
                  replace ha2 := Lib.hid ha2
                  replace hti := Lib.hid hti
                  replace hout' := Lib.hid hout'
                  replace hsn2 := Lib.hid hsn2
                  go_wp2_with fail
                  refine ct.out.mono ?_
                  rintro e w5 ⟨rfl, hm5⟩
                  dsimp only
                  replace hm5 := Lib.hid hm5
                  go_wp2_with fail
                  go_roundw
                  case rel => exact ⟨q + 1, by go_num, by omega, A', c', by rw [hout'.out, holl.out], by rw [hout'.out, holl.out]; exact Ow.mod0 how4.out hm5.out, hf.out, ha2.out, hm4.out.trans hm5.out⟩
                  case measure => simp [intOf]; omega
                · rw [if_neg ht0] at hout'
                  have e1 : (t == 0) = false := by simpa using ht0
                  replace hob := Lib.hid hob
                  replace hfb := Lib.hid hfb
                  replace hmb := Lib.hid hmb
                  replace hfull3 := Lib.hid hfull3
                  replace ha2 := Lib.hid ha2
                  replace hti := Lib.hid hti
                  replace hout' := Lib.hid hout'
                  replace ht0 := Lib.hid ht0
                  replace hsn2 := Lib.hid hsn2
                  go_wp2_with fail
                  refine ct.out.mono ?_
                  rintro e w5 ⟨rfl, hm5⟩
                  dsimp only
                  have hc5 := hm5.cell_some hc4 (fun h => h)
                  have hg5 := World.block_lt_of_cell? w5 _ hc5
                  replace hm5 := Lib.hid hm5
                  go_wp2_with (at_builtin; go_loud (refine appL rfl (.tmp 143) (.tmp 150) rfl rfl (Ow.mod0 how4.out (hm5.out.alloc _)) rfl (rdl_one _ _ _ rfl ⟨s, t⟩) (by omega) ?_; intro A2 c2 w6 ho2 hm2 hA2; replace ho2 := Lib.hid ho2; replace hm2 := Lib.hid hm2; replace hA2 := Lib.hid hA2))
                  go_roundw
                  case rel =>
                    have hl2 : (outL fl (N.take (q + 1))).length = ol + 1 := by rw [hout'.out, List.length_append, holl.out]; rfl
                    refine ⟨q + 1, by go_num, by omega, A2, c2, by rw [hl2], ?_, Fresh.app hf.out ((hm4.out.trans hm5.out).alloc _).size hA2.out, ha2.out, ((hm4.out.trans hm5.out).alloc _).app hf.out hm2.out⟩
                    rw [hl2, hout'.out]; exact ho2.out
                  case measure => simp [intOf]; omega
        · have hfullN : N.take q = N := List.take_of_length_le (by omega)
          rw [hfullN] at how hall ⊢
          replace how := Lib.hid how
          replace hf := Lib.hid hf
          replace hall := Lib.hid hall
          replace hm := Lib.hid hm
          go_wp2_with fail
          go_ret2
          rw [hfl.out]
          exact ⟨N, hNs.out, hNm.out, hNmd.out.trans hm.out, .inl ⟨hall.out, A', c', rfl, how.out, hf.out.later hsz2⟩⟩
end Go.Proofs.Ytaohgefpnndjcaa
/-
  Lists of lists of legs: as an argument, and one that the call makes.
-/
namespace Go.Proofs.Ytaohgefpnndjcaa
set_option linter.unusedVariables false
open Go.ChangeShapes Go.WideShapes Go.ChangeAt Go.RowKit Go.Deep
def LLs (w : World) (A : Option Addr) (n : Nat) (ss : List SV) (lls : List (List Lg)) : Prop :=
  Rd w 1 A n (ss.map SV.v) ∧ ss.length = lls.length ∧ ∀ (i : Nat) (s : SV) (l : List Lg), ss[i]? = some s → lls[i]? = some l → RdL w s.a s.n l ∧ s.n ≤ s.c ∧ ∀ x ∈ l, LgOk x
theorem LLs.len {w : World} {A : Option Addr} {n : Nat} {ss : List SV} {lls : List (List Lg)} (h : LLs w A n ss lls) : lls.length = n := by
  have h1 := h.1.1
  rw [List.length_map] at h1
  have := h.2.1
  omega
theorem LLs.mod0 {w w' : World} {A : Option Addr} {n : Nat} {ss : List SV} {lls : List (List Lg)} (h : LLs w A n ss lls) (hm : Mod none_ w w') : LLs w' A n ss lls :=
  ⟨Rd.mod0 h.1 hm, h.2.1, fun i s l hs hl => ⟨(h.2.2 i s l hs hl).1.mod0 hm, (h.2.2 i s l hs hl).2⟩⟩
theorem LLs.get {w : World} {A : Option Addr} {n : Nat} {ss : List SV} {lls : List (List Lg)} (h : LLs w A n ss lls) {j : Nat} (hj : j < n) :
    ∃ b o B k c l, A = some ⟨b, o, none⟩ ∧ w.cell? ⟨b, o + j, none⟩ = some (.slice B k c) ∧ lls[j]? = some l ∧ RdL w B k l ∧ k ≤ c ∧ ∀ x ∈ l, LgOk x := by
  obtain ⟨b, o, e, hc⟩ := Rd.form h.1 (show 0 < n by omega) (by omega)
  have hl := h.len
  have hs := h.2.1
  have hjs : j < ss.length := by omega
  have hjl : j < lls.length := by omega
  have h1 := hc j (.slice ss[j].a ss[j].n ss[j].c) (by rw [List.getElem?_map, List.getElem?_eq_getElem hjs]; rfl)
  have h2 := h.2.2 j ss[j] lls[j] (List.getElem?_eq_getElem hjs) (List.getElem?_eq_getElem hjl)
  exact ⟨b, o, ss[j].a, ss[j].n, ss[j].c, lls[j], e, h1, List.getElem?_eq_getElem hjl, h2.1, h2.2.1, h2.2.2⟩
set_option maxRecDepth 100000 in
theorem open_llegs {H : Type} {enc : TypeId × Value → H} {w : World} {held : Bool} {fuel : Nat} {cs : List Value} {x : DataW H × List MemPlace}
    (h : DataW.trod enc Try.prog w 0 (fun _ => true) held fuel 47 cs = some x) (hw : Wd Try.prog 47 x.1) :
    ∃ (A : Option Addr) (n c : Nat) (ss : List SV) (lls : List (List Lg)), cs = [.slice A n c] ∧ n ≤ c ∧ LLs w A n ss lls := by
  obtain ⟨A, n, c, css, D, rfl, hc, hi⟩ := open_any Try.underlying47 (by kernel_rfl : Try.prog.cellsOf 23 = 1) (by omega) h hw
  have hch : ∀ i, i < n → ∃ e : SV × List Lg, css i = [e.1.v] ∧ RdL w e.1.a e.1.n e.2 ∧ e.1.n ≤ e.1.c ∧ ∀ x ∈ e.2, LgOk x := by
    intro i hin
    obtain ⟨_, hwd, m, pl, htr⟩ := hi i hin
    obtain ⟨B, k, d, l, hcs, h1, h2, h3⟩ := open_legs htr hwd
    exact ⟨(⟨B, k, d⟩, l), hcs, h1, h2, h3⟩
  obtain ⟨es, hl, hz⟩ := list_choice _ n hch
  have e1 : (List.range n).flatMap css = (es.map (·.1)).map SV.v := by
    rw [← hl, flat_range (fun e : SV × List Lg => [e.1.v]) css es fun i e hie => (hz i e hie).1]
    clear hz hl
    induction es with
    | nil => rfl
    | cons z zs ih => simp [List.flatMap_cons, ih]
  rw [e1] at hc
  refine ⟨A, n, c, es.map (·.1), es.map (·.2), rfl, hc.2.1, hc.1, by simp, fun i s l hs hl2 => ?_⟩
  rw [List.getElem?_map] at hs hl2
  cases he : es[i]? with
  | none => rw [he] at hs; cases hs
  | some e =>
    rw [he] at hs hl2
    cases hs; cases hl2
    exact (hz i e he).2
/-- a list of lists of legs that the call makes -/
def LLOwn (w : World) (G : Option Addr) (m c : Nat) (ss : List SV) (lls : List (List Lg)) : Prop :=
  Ow w 23 1 G m c (ss.map SV.v) ∧ ss.length = lls.length ∧ ∀ (i : Nat) (s : SV) (l : List Lg), ss[i]? = some s → lls[i]? = some l → RdL w s.a s.n l ∧ s.n ≤ 8 ∧ (0 < s.n → ∀ k, fp s.a k → ¬ fp G k)
section
variable {w w' : World} {G : Option Addr} {m c : Nat} {ss : List SV} {lls : List (List Lg)}
theorem LLOwn.nil (w : World) : LLOwn w none 0 0 [] [] := ⟨Ow.nil _ _ _, rfl, fun i s l hs _ => by simp at hs⟩
theorem LLOwn.len (h : LLOwn w G m c ss lls) : lls.length = m := by
  have := h.1.1
  rw [List.length_map] at this
  rw [← h.2.1]; omega
theorem LLOwn.mod0 (h : LLOwn w G m c ss lls) (hm : Mod none_ w w') : LLOwn w' G m c ss lls :=
  ⟨h.1.mod0 hm, h.2.1, fun i s l hs hl => ⟨(h.2.2 i s l hs hl).1.mod0 hm, (h.2.2 i s l hs hl).2⟩⟩
theorem LLOwn.at (h : LLOwn w G m c ss lls) : LegsAt w G m ss lls :=
  ⟨Ow.rd h.1, h.2.1, fun i s l hs hl => ⟨(h.2.2 i s l hs hl).1, by have := (h.2.2 i s l hs hl).2.1; omega⟩⟩
theorem LLOwn.flat (h : LLOwn w G m c ss lls) : lls.flatten.length ≤ 8 * m := by
  have h1 : ∀ l ∈ lls, l.length ≤ 8 := by
    intro l hl
    obtain ⟨i, hi1, hi2⟩ := List.getElem_of_mem hl
    have hi3 : i < ss.length := by rw [h.2.1]; exact hi1
    have := h.2.2 i ss[i] l (List.getElem?_eq_getElem hi3) (by rw [List.getElem?_eq_getElem hi1, hi2])
    rw [this.1.len]; exact this.2.1
  have h2 := h.len
  clear h
  subst h2
  induction lls with
  | nil => simp
  | cons l lls ih =>
    have := ih fun l hl => h1 l (List.mem_cons_of_mem _ hl)
    have := h1 l (by simp)
    simp only [List.flatten_cons, List.length_append, List.length_cons] at *
    omega
theorem LLOwn.push (h : LLOwn w G m c ss lls) {s : SV} {l : List Lg} (h1 : RdL w s.a s.n l) (h2 : s.n ≤ 8) (h3 : 0 < s.n → ∀ k, fp s.a k → ¬ fp G k) {w1 : World} {G' : Option Addr} {c' : Nat} (hown : Ow w1 23 1 G' (m + 1) c' (ss.map SV.v ++ [s.v]))
    (hm : Mod (fp G) w w1) (hA : G' = G ∨ ∃ g, G' = some ⟨g, 0, none⟩ ∧ w.heap.size ≤ g) : LLOwn w1 G' (m + 1) c' (ss ++ [s]) (lls ++ [l]) := by
  have key : ∀ (s : SV) (l : List Lg), RdL w s.a s.n l → s.n ≤ 8 → (0 < s.n → ∀ k, fp s.a k → ¬ fp G k) → RdL w1 s.a s.n l ∧ s.n ≤ 8 ∧ (0 < s.n → ∀ k, fp s.a k → ¬ fp G' k) := by
    intro s l ht h8 hG
    refine ⟨ht.mod' hm fun h0 k hk hf => hG h0 k hk hf, h8, fun h0 k hk => ?_⟩
    have q1 := rdl_lt ht h0 k hk
    rcases hA with rfl | ⟨g, rfl, hg⟩
    · exact hG h0 k hk
    · rintro ⟨a, ha, rfl⟩
      cases ha
      simp only at q1
      omega
  refine ⟨by simpa using hown, by simp [h.2.1], fun i s' l' hs hl => ?_⟩
  by_cases hi : i < ss.length
  · rw [List.getElem?_append_left hi] at hs
    rw [List.getElem?_append_left (by rw [← h.2.1]; exact hi)] at hl
    obtain ⟨a1, a2, a3⟩ := h.2.2 i s' l' hs hl
    exact key _ _ a1 a2 a3
  · rw [List.getElem?_append_right (by omega)] at hs
    rw [List.getElem?_append_right (by rw [← h.2.1]; omega), ← h.2.1] at hl
    have e : i - ss.length = 0 := by
      rcases Nat.lt_or_ge (i - ss.length) 1 with h5 | h5
      · omega
      · rw [List.getElem?_eq_none (by simpa using h5)] at hs; cases hs
    rw [e] at hs hl
    simp at hs hl
    subst hs hl
    exact key _ _ h1 h2 h3
end
theorem LegsAt.rot {w : World} {G A : Option Addr} {m k : Nat} {ss : List SV} {lls : List (List Lg)} (h : LegsAt w G m ss lls) (hr : Rd w 1 A m ((ss.drop k ++ ss.take k).map SV.v)) : LegsAt w A m (ss.drop k ++ ss.take k) (lls.drop k ++ lls.take k) := by
  have hl := h.2.1
  refine ⟨hr, by simp [hl], fun i s l hs hl2 => ?_⟩
  by_cases hi : i < (ss.drop k).length
  · rw [List.getElem?_append_left hi, List.getElem?_drop] at hs
    rw [List.getElem?_append_left (by rw [List.length_drop] at hi ⊢; omega), List.getElem?_drop] at hl2
    exact h.2.2 _ s l hs hl2
  · have e : (ss.drop k).length = (lls.drop k).length := by rw [List.length_drop, List.length_drop, hl]
    rw [List.getElem?_append_right (by omega)] at hs
    rw [List.getElem?_append_right (by omega), ← e] at hl2
    rw [List.getElem?_take] at hs hl2
    split at hs
    · rename_i h1
      rw [if_pos h1] at hl2
      exact h.2.2 _ s l hs hl2
    · cases hs
theorem LLs.ok {w : World} {A : Option Addr} {n : Nat} {ss : List SV} {lls : List (List Lg)} (h : LLs w A n ss lls) : ∀ l ∈ lls, ∀ x ∈ l, LgOk x := by
  intro l hl
  obtain ⟨i, hi1, hi2⟩ := List.getElem_of_mem hl
  have hi3 : i < ss.length := by rw [h.2.1]; exact hi1
  exact (h.2.2 i ss[i] l (List.getElem?_eq_getElem hi3) (by rw [List.getElem?_eq_getElem hi1, hi2])).2.2
theorem rds_drop {w : World} {G : Option Addr} {m c k : Nat} {ss : List SV} (h : Rd w 1 G m (ss.map SV.v)) (hk : k ≤ m) (hc : m ≤ c) : Rd w 1 (if c = k then G else Option.map (fun x => x.add k) G) (m - k) ((ss.drop k).map SV.v) := by
  have := Rd.drop_ h hk hc
  simp only [Nat.mul_one] at this
  rw [List.map_drop]
  exact this
theorem rds_take {w : World} {G : Option Addr} {m k : Nat} {ss : List SV} (h : Rd w 1 G m (ss.map SV.v)) (hk : k ≤ m) : Rd w 1 G k ((ss.take k).map SV.v) := by
  have := Rd.take_ h hk
  rw [Nat.mul_one] at this
  rw [List.map_take]
  exact this
def zeroS : Value := .slice none 0 0
theorem slinfo : (Try.prog.info? 23).map (fun i => (i.zero, i.size, i.bytes)) = some (some zeroS, 1, 24) := by kernel_rfl
theorem svs_one (ss : List SV) : ∀ u ∈ ss.map SV.v, u.oneCell' = true := by
  intro u hu
  obtain ⟨s, _, rfl⟩ := List.mem_map.1 hu
  rfl
theorem appLL {w : World} {ops : Array Oper} {rest : List Oper} {o : Oper} {a : Act} {Q : Exit → Act → World → Prop} (hgd : o.guard = none) (s x : Operand)
    (ho : o.op = .call { callee := .builtin .append, args := #[s, x], argTypes := #[47, 47] })
    {A : Option Addr} {n c : Nat} {xs : List SV} (hs : a.eval s = .slice A n c) (hown : Ow w 23 1 A n c (xs.map SV.v))
    {S : Option Addr} {m d : Nat} {news : List SV} (hx : a.eval x = .slice S m d) (hr : Rd w 1 S m (news.map SV.v)) (hb : (n + m) * 24 ≤ 140737488355328)
    (h : ∀ A' c' w', Ow w' 23 1 A' (n + m) c' (xs.map SV.v ++ news.map SV.v) → Mod (fp A) w w' → (A' = A ∨ A' = some ⟨w.heap.size, 0, none⟩) → wpList Try.prog ops Q rest (a.put o.dst (.slice A' (n + m) c')) w') : wpList Try.prog ops Q (o :: rest) a w := by
  obtain ⟨i0, hi, hz0, hz1, hz2⟩ := info_parts slinfo
  refine wpList_append_ow hgd s x 47 ho 23 i0 _ 1 24 Try.underlying47 hi hz0 hz1 hz2 rfl (by omega) A n c (xs.map SV.v) hs hown S m d (news.map SV.v) hx hr (svs_one _) (by omega) (by omega) ?_
  intro A' c' w' h1
  exact h A' c' w' h1
theorem step_appLL {w : World} {ops : Array Oper} {o : Oper} {a : Act} {K : Act → World → Prop} {Q : Exit → Act → World → Prop} {E : Prop} (hgd : o.guard = none) (s x : Operand)
    (ho : o.op = .call { callee := .builtin .append, args := #[s, x], argTypes := #[47, 47] })
    {A : Option Addr} {n c : Nat} {xs : List SV} (hs : a.eval s = .slice A n c) (hown : Ow w 23 1 A n c (xs.map SV.v))
    {S : Option Addr} {m d : Nat} {news : List SV} (hx : a.eval x = .slice S m d) (hr : Rd w 1 S m (news.map SV.v)) (hb : (n + m) * 24 ≤ 140737488355328)
    (h : ∀ A' c' w', Ow w' 23 1 A' (n + m) c' (xs.map SV.v ++ news.map SV.v) → Mod (fp A) w w' → (A' = A ∨ A' = some ⟨w.heap.size, 0, none⟩) → K (a.put o.dst (.slice A' (n + m) c')) w') :
    if Region.wanted o (yielded ops a.tmps) = true then Oper.wp Try.prog o a w K Q else E := by
  obtain ⟨i0, hi, hz0, hz1, hz2⟩ := info_parts slinfo
  refine step_append_ow hgd s x 47 ho 23 i0 _ 1 24 Try.underlying47 hi hz0 hz1 hz2 rfl (by omega) A n c (xs.map SV.v) hs hown S m d (news.map SV.v) hx hr (svs_one _) (by omega) (by omega) ?_
  intro A' c' w' h1
  exact h A' c' w' h1
theorem rds_one (w : World) (g : Nat) (hg : g = w.heap.size) (e : TypeId) (s : SV) : Rd (w.alloc (.cells #[.slice s.a s.n s.c] e)) 1 (some ⟨g, 0, none⟩) 1 ([s].map SV.v) := by
  subst hg
  exact rdn w e 1 1 w.heap.size #[.slice s.a s.n s.c] (0, 0) rfl rfl
theorem rds_two (w : World) (g : Nat) (hg : g = w.heap.size) (e : TypeId) (A B : Option Addr) (n m c d : Nat) : Rd (w.alloc (.cells #[.slice A n c, .slice B m d] e)) 1 (some ⟨g, 0, none⟩) 2 [.slice A n c, .slice B m d] := by
  subst hg
  exact rdn w e 1 2 w.heap.size #[.slice A n c, .slice B m d] (0, 0) rfl rfl
end Go.Proofs.Ytaohgefpnndjcaa
/-
  VoucherNets: the walk.
-/
namespace Go.Proofs.Ytaohgefpnndjcaa
set_option linter.unusedVariables false
open Go.RowKit
def fewL (lls : List (List Lg)) : List (List Lg) := (lls.take 10).map fun l => l.take 8
theorem fewL_len (lls : List (List Lg)) : (fewL lls).length = min lls.length 10 := by unfold fewL; rw [List.length_map, List.length_take]; omega
theorem fewL_get {lls : List (List Lg)} {i : Nat} {l : List Lg} (h : lls[i]? = some l) (hi : i < 10) : (fewL lls).take (i + 1) = (fewL lls).take i ++ [l.take 8] := by
  have hil : i < lls.length := by
    rcases Nat.lt_or_ge i lls.length with h1 | h1
    · exact h1
    · rw [List.getElem?_eq_none h1] at h; cases h
  have hi2 : i < (fewL lls).length := by rw [fewL_len]; omega
  rw [List.take_succ_eq_append_getElem hi2]
  congr 1
  unfold fewL
  rw [List.getElem?_eq_getElem hil] at h
  injection h with h
  simp [h]
theorem few_okL {lls : List (List Lg)} (h : ∀ l ∈ lls, ∀ x ∈ l, LgOk x) : ∀ l ∈ (fewL lls).flatten, LgOk l := by
  intro l hl
  obtain ⟨m, hm, hl⟩ := List.mem_flatten.1 hl
  unfold fewL at hm
  obtain ⟨q, hq, rfl⟩ := List.mem_map.1 hm
  exact h q (List.mem_of_mem_take hq) l (List.mem_of_mem_take hl)
def mirB (ls : List Lg) : Bool := ls.all fun l => (actR (0 - l.x)).2 == 0
def mirD (ls : List Lg) : List Lg := if mirB ls then ls.map negL else []
def mirE (ls : List Lg) : Int := if mirB ls then 0 else 2
theorem mir_c {ls : List Lg} {W : World} {e : Ending} {w' : World} (h : MirPost ls W e w') : ∃ A c, e = .returned (.tuple #[.slice A (mirD ls).length c, .int .i64 (mirE ls)]) ∧ RdL w' A (mirD ls).length (mirD ls) ∧ Mod none_ W w' := by
  rcases h with ⟨A, c, rfl, ho, _, hall, hm⟩ | ⟨rfl, ⟨l, hl, hne⟩, hm⟩
  · have hb : mirB ls = true := by
      unfold mirB
      rw [List.all_eq_true]
      intro l hl
      simpa using hall l hl
    unfold mirD mirE
    rw [hb, if_pos rfl, if_pos rfl, List.length_map]
    exact ⟨A, c, rfl, Ow.rd ho, hm⟩
  · have hb : mirB ls = false := by
      cases hb : mirB ls with
      | false => rfl
      | true =>
        unfold mirB at hb
        rw [List.all_eq_true] at hb
        have := hb l hl
        exact absurd (by simpa using this) hne
    unfold mirD mirE
    rw [hb, if_neg (by simp), if_neg (by simp)]
    exact ⟨none, 0, rfl, Ow.rd (Ow.nil w' 44 2), hm⟩
theorem mirD_len (ls : List Lg) : (mirD ls).length ≤ ls.length := by
  unfold mirD
  split
  · rw [List.length_map]; exact Nat.le_refl _
  · exact Nat.zero_le _
def netB (ls : List Lg) (N : List (List UInt8)) : Bool := N.all fun s => inI (isum (sumsOf ls s))
def netD (ls : List Lg) (N : List (List UInt8)) : List Lg := if netB ls N then outL ls N else []
def netE (ls : List Lg) (N : List (List UInt8)) : Int := if netB ls N then 0 else 2
theorem net_c {ls : List Lg} {W : World} {e : Ending} {w' : World} (h : NetPost ls W e w') : ∃ N : List (List UInt8), N.Pairwise (fun a b => bytesBefore a b = true) ∧ (∀ s, s ∈ N ↔ ∃ l ∈ ls, l.n = s) ∧ ∃ A c, e = .returned (.tuple #[.slice A (netD ls N).length c, .int .i64 (netE ls N)]) ∧ RdL w' A (netD ls N).length (netD ls N) ∧ Mod none_ W w' := by
  obtain ⟨N, h1, h2, h3, h4⟩ := h
  refine ⟨N, h1, h2, ?_⟩
  rcases h4 with ⟨hall, A, c, rfl, ho, _⟩ | ⟨⟨s, hs, hno⟩, rfl⟩
  · have hb : netB ls N = true := by unfold netB; rw [List.all_eq_true]; exact hall
    unfold netD netE
    rw [hb, if_pos rfl, if_pos rfl]
    exact ⟨A, c, rfl, Ow.rd ho, h3⟩
  · have hb : netB ls N = false := by
      cases hb : netB ls N with
      | false => rfl
      | true =>
        unfold netB at hb
        rw [List.all_eq_true] at hb
        rw [hb s hs] at hno; cases hno
    unfold netD netE
    rw [hb, if_neg (by simp), if_neg (by simp)]
    exact ⟨none, 0, rfl, Ow.rd (Ow.nil w' 44 2), h3⟩
theorem netD_len {ls : List Lg} {N : List (List UInt8)} (h : N.Pairwise fun a b => bytesBefore a b = true) (hm : ∀ s, s ∈ N ↔ ∃ l ∈ ls, l.n = s) : (netD ls N).length ≤ ls.length := by
  unfold netD
  split
  · exact out_few h hm
  · exact Nat.zero_le _
set_option maxRecDepth 100000 in
set_option maxHeartbeats 4000000 in
theorem voucherNets_walk (w : World) (A : Option Addr) (n c : Nat) (ss : List SV) (lls : List (List Lg)) (hnc : n ≤ c) (hA : LLs w A n ss lls) :
    Calls Try.prog 7 #[.slice A n c] w fun e w' => e = .returned (.bool true) ∧ Below w.heap.size w w' := by
  have k0 := Lib.hid (lives_ok w)
  have hll := hA.len
  have hol := fewL_len lls
  rw [hll] at hol
  have hok := few_okL hA.ok
  have e1 : (min (n : Int) 10).toNat = min n 10 := by omega
  have e2 : (min (n : Int) 10) = ((min n 10 : Nat) : Int) := by omega
  have f0 : (0 : Int) ≤ min (n : Int) 10 := by omega
  have f1 : min (n : Int) 10 ≤ (c : Int) := by omega
  replace hA := Lib.hid hA
  replace hll := Lib.hid hll
  replace hok := Lib.hid hok
  replace hol := Lib.hid hol
  go_enter Try.func7, Try.ntmps7
  go_wp2_with fail
  refine k0.out.mono ?_
  rintro e w0 ⟨rfl, hm0⟩
  dsimp only
  replace hm0 := Lib.hid hm0
  go_wp2_with fail
  obtain ⟨m, hm10⟩ : ∃ m, min n 10 = m := ⟨_, rfl⟩
  rw [hm10] at e1 e2
  have hmn : m ≤ n := by omega
  have hmt : m ≤ 10 := by omega
  have hlm : (fewL lls).length = m := by rw [hol.out]; exact hm10
  clear f0 f1
  replace hm10 := Lib.hid hm10
  replace hol := Lib.hid hol
  go_loopw [3, 4] (fun v x wr => ∃ i : Nat, x = .int .i64 i ∧ i ≤ m ∧ ∃ G d ts, v = .slice G i d ∧ LLOwn wr G i d ts ((fewL lls).take i) ∧ Fresh w G ∧ Mod none_ w wr) (fun _ x _ => m - (intOf x).toNat)
  case atStart => exact ⟨0, rfl, by omega, none, 0, [], rfl, LLOwn.nil _, (fun _ h => by cases h), hm0.out⟩
  case round =>
    obtain ⟨i, rfl, hi, G, d, ts, rfl, hown, hf, hm⟩ := hrel
    by_cases hil : i < m
    · obtain ⟨g, o, B, k, kc, l, rfl, y0, hjl, hB0, hkc, hlok⟩ := LLs.get hA.out (show i < n by omega)
      have y1 := hm.cell_some y0 (fun h => h)
      have hgl := World.block_lt_of_cell? wr _ y1
      have hlen := hB0.len
      have hnx := fewL_get hjl (show i < 10 by omega)
      have hlt : 0 < min k 8 → ∀ x, fp B x → x < w.heap.size := fun h0 x hx => rdl_lt hB0 (by omega) x hx
      have hL8 := Lib.hid (rdl_take hB0 (show min k 8 ≤ k by omega))
      have kf := Lib.hid (fun W => few_ok W B k kc hkc)
      have hk8 : ∀ x ∈ l.take 8, LgOk x := fun x hx => hlok x (List.mem_of_mem_take hx)
      have etk : l.take (min k 8) = l.take 8 := by
        rcases Nat.lt_or_ge k 8 with h | h
        · rw [Nat.min_eq_left (by omega), List.take_of_length_le (by omega), List.take_of_length_le (by omega)]
        · rw [Nat.min_eq_right (by omega)]
      rw [etk] at hL8
      have hkm : min k 8 ≤ 8 := by omega
      generalize min k 8 = k8 at *
      generalize l.take 8 = l8 at *
      have hlen8 := hL8.out.len
      have km := Lib.hid (fun W (h : RdL W B k8 l8) => (mirror_ok W B k8 kc l8 h (by omega) hk8).mono fun e w' h => mir_c h)
      have kr := Lib.hid (fun W (h : RdL W B k8 l8) => (rmirror_ok W B k8 kc l8 h (by omega) hk8).mono fun e w' h => mir_c h)
      have hml := mirD_len l8
      rw [hlen8] at hml
      have ksl := Lib.hid (fun W A1 A2 d1 d2 (h1 : RdL W A1 (mirD l8).length (mirD l8)) (h2 : RdL W A2 (mirD l8).length (mirD l8)) => show Calls Try.prog 21 #[.slice A1 (mirD l8).length d1, .slice A2 (mirD l8).length d2] W (fun e w' => e = .returned (.bool true) ∧ ∃ k, w' = W.drewN k) from by
        have := samel_ok W A1 A2 _ _ d1 d2 _ _ h1 h2 (by omega) (by omega)
        rwa [show sameLg (mirD l8) (mirD l8) = true from decide_eq_true rfl] at this)
      generalize mirD l8 = D at *
      generalize mirE l8 = er at *
      replace hjl := Lib.hid hjl
      replace hB0 := Lib.hid hB0
      replace hlok := Lib.hid hlok
      replace hlen := Lib.hid hlen
      replace hnx := Lib.hid hnx
      replace hlt := Lib.hid hlt
      replace hk8 := Lib.hid hk8
      replace etk := Lib.hid etk
      replace hown := Lib.hid hown
      replace hf := Lib.hid hf
      replace hm := Lib.hid hm
      replace y0 := Lib.hid y0
      replace hlen8 := Lib.hid hlen8
      go_wp2_with fail
      refine (kf.out _).mono ?_
      rintro e w3 ⟨rfl, rfl⟩
      dsimp only
      go_wp2_with (at_builtin; go_loud (refine appLL rfl (.tmp 26) (.tmp 32) rfl rfl (hown.out.mod0 ((Mod.refl none_ _).alloc _)).1 rfl (rds_one wr _ rfl _ ⟨B, k8, kc⟩) (by omega) ?_; intro G2 d2 w2 ho3 hm3 hA3; have hmm := Mod.app (hm.out.alloc _) hf.out hm3; have y3 := hmm.cell_some y0.out (fun h => h); have g3 := World.block_lt_of_cell? w2 _ y3; replace ho3 := Lib.hid ho3; replace hm3 := Lib.hid hm3; replace hA3 := Lib.hid hA3; replace hmm := Lib.hid hmm))
      have hL2 := Lib.hid (hL8.out.mod0 hmm.out)
      have hown2 := Lib.hid (LLOwn.push (s := ⟨B, k8, kc⟩) (l := l8) (hown.out.mod0 ((Mod.refl none_ _).alloc _)) (hL8.out.mod0 (hm.out.alloc _)) hkm (fun h0 x hx hg => by have h1 := hlt.out h0 x hx; obtain ⟨a, ha, rfl⟩ := hg; have h2 := hf.out a ha; omega) ho3.out hm3.out (by rcases hA3.out with h | h; exact .inl h; exact .inr ⟨_, h, Nat.le_refl _⟩))
      have hf2 := Lib.hid (Fresh.app hf.out (hm.out.alloc (.cells #[.slice B k8 kc] 23)).size hA3.out)
      rw [← hnx.out] at hown2
      clear hown hf hm3 hA3 ho3 y1 hgl
      refine (kf.out _).mono ?_
      rintro e w4 ⟨rfl, rfl⟩
      dsimp only
      go_wp2_with fail
      refine (km.out _ hL2.out).mono ?_
      rintro e w5 ⟨A5, c5, rfl, ho5, hm5⟩
      dsimp only
      have y5 := hm5.cell_some y3 (fun h => h)
      have g5 := World.block_lt_of_cell? w5 _ y5
      replace ho5 := Lib.hid ho5
      replace hm5 := Lib.hid hm5
      go_wp2_with fail
      refine (kf.out _).mono ?_
      rintro e w6 ⟨rfl, rfl⟩
      dsimp only
      go_wp2_with fail
      refine (kr.out _ (hL2.out.mod0 hm5.out)).mono ?_
      rintro e w7 ⟨A7, c7, rfl, ho7, hm7⟩
      dsimp only
      replace ho7 := Lib.hid ho7
      replace hm7 := Lib.hid hm7
      go_wp2_with fail
      refine (ksl.out _ _ _ _ _ (ho5.out.mod0 hm7.out) ho7.out).mono ?_
      rintro e w8 ⟨rfl, kk, rfl⟩
      dsimp only
      go_wp2_with fail
      go_roundw
      case rel =>
        have hm8 : Mod none_ w2 (w7.drewN kk) := (hm5.out.trans hm7.out).drewN kk
        exact ⟨i + 1, by go_num, by omega, G2, d2, _, rfl, hown2.out.mod0 hm8, hf2.out, hmm.out.trans hm8⟩
      case measure => simp [intOf]; omega
    · have hin : i = m := by omega
      subst hin
      have hfull : (fewL lls).take i = fewL lls := List.take_of_length_le (by omega)
      rw [hfull] at hown
      generalize fewL lls = own at *
      have hfl := hown.flat
      have kn := Lib.hid (fun W (h : LegsAt W G i ts own) => (net_ok W G i d ts own h (by omega) hok.out (by omega)).mono fun e w' h => net_c h)
      have kr := Lib.hid (fun W (h : LegsAt W G i ts own) => (rnet_ok W G i d ts own h (by omega) hok.out (by omega)).mono fun e w' h => net_c h)
      replace hfull := Lib.hid hfull
      replace hf := Lib.hid hf
      replace hm := Lib.hid hm
      go_wp2_with fail
      refine (kn.out _ hown.at).mono ?_
      rintro e w3 ⟨N, hN, hNm, A3, c3, rfl, ho3, hm3⟩
      dsimp only
      have hat := Lib.hid ((hown.mod0 hm3).at)
      have hmw3 := Lib.hid (hm.out.trans hm3)
      clear hown hm3
      replace ho3 := Lib.hid ho3
      go_wp2_with fail
      refine (kr.out _ hat.out).mono ?_
      rintro e w4 ⟨N2, hN2, hNm2, A4, c4, rfl, ho4, hm4⟩
      obtain rfl : N = N2 := sorted_same hN hN2 fun s => by rw [hNm, hNm2]
      dsimp only
      have hdl := netD_len hN hNm
      have hr3 := ho3.out.mod0 hm4
      have ksl := Lib.hid (samel_ok w4 A3 A4 _ _ c3 c4 _ _ hr3 ho4 (by omega) (by omega))
      rw [show sameLg (netD own.flatten N) (netD own.flatten N) = true from decide_eq_true rfl] at ksl
      have hmw4 := Lib.hid (hmw3.out.trans hm4)
      clear hm4 hr3 ho4 ho3 hat
      generalize netD own.flatten N = D at *
      generalize netE own.flatten N = er at *
      replace hN := Lib.hid hN
      replace hN2 := Lib.hid hN2
      replace hNm := Lib.hid hNm
      replace hNm2 := Lib.hid hNm2
      go_wp2_with fail
      refine ksl.out.mono ?_
      rintro e w5 ⟨rfl, kk, rfl⟩
      dsimp only
      go_wp2_with fail
      go_ret
      exact ⟨rfl, (hmw4.out.drewN kk).below0⟩
end Go.Proofs.Ytaohgefpnndjcaa
