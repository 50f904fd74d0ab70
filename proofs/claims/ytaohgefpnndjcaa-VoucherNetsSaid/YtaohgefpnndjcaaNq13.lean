import Derived.Test.YtaohgefpnndjcaaNq12
import Derived.Deep.RegionLaw
import Derived.Deep.CutRange
import Derived.Laws.StructEq
import Derived.Test.YtaohgefpnndjcaaNq2
import Derived.Test.YtaohgefpnndjcaaRows
/-
  VoucherRow: the walk.
-/
namespace Go.Proofs.Ytaohgefpnndjcaa
set_option linter.unusedVariables false
open Go.RowKit
def OwL (w : World) (A : Option Addr) (n c : Nat) (ls : List Lg) : Prop := Ow w 44 2 A n c (lgs ls)
theorem lgs_one (ls : List Lg) : ∀ u ∈ lgs ls, u.oneCell' = true := by
  intro u hu
  unfold lgs at hu
  rw [List.mem_flatMap] at hu
  obtain ⟨a, _, ha⟩ := hu
  simp only [List.mem_cons, List.not_mem_nil, or_false] at ha
  rcases ha with rfl | rfl <;> rfl
def zeroL : Value := .agg #[.string ⟨#[]⟩, .int .i64 0]
theorem lginfo : (Try.prog.info? 44).map (fun i => (i.zero, i.size, i.bytes)) = some (some zeroL, 2, 24) := by kernel_rfl
theorem step_appL {w : World} {ops : Array Oper} {o : Oper} {a : Act} {K : Act → World → Prop} {Q : Exit → Act → World → Prop} {E : Prop} (hgd : o.guard = none) (s x : Operand)
    (ho : o.op = .call { callee := .builtin .append, args := #[s, x], argTypes := #[23, 23] })
    {A : Option Addr} {n c : Nat} {xs : List Lg} (hs : a.eval s = .slice A n c) (hown : OwL w A n c xs)
    {S : Option Addr} {m d : Nat} {news : List Lg} (hx : a.eval x = .slice S m d) (hr : RdL w S m news) (hb : (n + m) * 24 ≤ 140737488355328)
    (h : ∀ A' c' w', OwL w' A' (n + m) c' (xs ++ news) → Mod (fp A) w w' → (A' = A ∨ A' = some ⟨w.heap.size, 0, none⟩) → K (a.put o.dst (.slice A' (n + m) c')) w') :
    if Region.wanted o (yielded ops a.tmps) = true then Oper.wp Try.prog o a w K Q else E := by
  obtain ⟨i0, hi, hz0, hz1, hz2⟩ := info_parts lginfo
  refine step_append_ow hgd s x 23 ho 44 i0 _ 2 24 Try.underlying23 hi hz0 hz1 hz2 rfl (by omega) A n c (lgs xs) hs hown S m d (lgs news) hx hr (lgs_one _) (by omega) (by omega) ?_
  intro A' c' w' h1
  rw [← lgs_append] at h1
  exact h A' c' w' h1
theorem step_copyL {w : World} {ops : Array Oper} {o : Oper} {a : Act} {K : Act → World → Prop} {Q : Exit → Act → World → Prop} {E : Prop} (hgd : o.guard = none) (s x : Operand)
    (ho : o.op = .call { callee := .builtin .append, args := #[s, x], argTypes := #[23, 23] })
    (hs : a.eval s = .slice none 0 0) {S : Option Addr} {m d : Nat} {news : List Lg} (hx : a.eval x = .slice S m d) (hr : RdL w S m news) (hb : m ≤ 1000)
    (h : ∀ A' c' w', OwL w' A' m c' news → Mod none_ w w' → Fresh w A' → K (a.put o.dst (.slice A' m c')) w') :
    if Region.wanted o (yielded ops a.tmps) = true then Oper.wp Try.prog o a w K Q else E := by
  refine step_appL hgd s x ho hs (show OwL w none 0 0 [] from Ow.nil _ _ _) hx hr (by omega) ?_
  intro A' c' w' h1 h2 h3
  rw [Nat.zero_add] at h1 ⊢
  refine h A' c' w' h1 (h2.mono ?_) ?_
  · rintro i ⟨a, h, _⟩; cases h
  · rcases h3 with rfl | rfl
    · intro a ha; cases ha
    · intro a ha; cases ha; exact Nat.le_refl _
theorem rdl_take {w : World} {A : Option Addr} {n k : Nat} {ls : List Lg} (h : RdL w A n ls) (hk : k ≤ n) : RdL w A k (ls.take k) := by
  have := Rd.take_ h hk
  have e : (lgs ls).take (k * 2) = lgs (ls.take k) := by
    have hl := h.len
    have h2 : lgs ls = lgs (ls.take k) ++ lgs (ls.drop k) := by rw [← lgs_append, List.take_append_drop]
    rw [h2]
    exact List.take_left' (by rw [lgs_length, List.length_take]; congr 1; omega)
  rwa [e] at this
theorem rdl_drop {w : World} {A : Option Addr} {n k c : Nat} {ls : List Lg} (h : RdL w A n ls) (hk : k ≤ n) (hc : n ≤ c) : RdL w (if c = k then A else A.map (·.add (k * 2))) (n - k) (ls.drop k) := by
  have := Rd.drop_ h hk hc
  have e : (lgs ls).drop (k * 2) = lgs (ls.drop k) := by
    have hl := h.len
    have h2 : lgs ls = lgs (ls.take k) ++ lgs (ls.drop k) := by rw [← lgs_append, List.take_append_drop]
    rw [h2]
    exact List.drop_left' (by rw [lgs_length, List.length_take]; congr 1; omega)
  rwa [e] at this
set_option maxRecDepth 100000 in
set_option maxHeartbeats 2000000 in
theorem voucherRow_walk (w : World) (A : Option Addr) (n c : Nat) (os : List Ac) (hr : RdA w A n os) (hok : ∀ o ∈ os, AcOk o) (L : Option Addr) (m d : Nat) (ls : List Lg) (hl : RdL w L m ls) (hmd : m ≤ d) (hlk : ∀ l ∈ ls, LgOk l) (at_ : Int) :
    Calls Try.prog 4 #[.slice A n c, .slice L m d, .int .i64 at_] w fun e w' => e = .returned (.bool true) ∧ Below w.heap.size w w' := by
  have k0 := Lib.hid (lives_ok w)
  have k1 := Lib.hid (fun W (h : RdA W A n os) => accts_ok W A n c os h hok)
  have k2 := Lib.hid (fun W => few_ok W L m d hmd)
  have hm8 : min m 8 ≤ m := by omega
  have hL8 := rdl_take hl hm8
  have hk8 : ∀ l ∈ ls.take (min m 8), LgOk l := fun l h => hlk l (List.mem_of_mem_take h)
  have hlt : 0 < min m 8 → ∀ k, fp L k → k < w.heap.size := fun h0 k hk => rdl_lt hl (by omega) k hk
  replace hr := Lib.hid hr
  replace hok := Lib.hid hok
  replace hl := Lib.hid hl
  replace hlk := Lib.hid hlk
  go_enter Try.func4, Try.ntmps4
  go_wp2_with fail
  refine k0.out.mono ?_
  rintro e w0 ⟨rfl, hm0⟩
  dsimp only
  replace hm0 := Lib.hid hm0
  go_wp2_with fail
  refine (k1.out _ (Rd.mod0 hr.out hm0.out)).mono ?_
  rintro e w1 ⟨p, b, q, C, rfl, hC, hR, oC, hm1, hp, hb, hpq, hbq, hq1⟩
  dsimp only
  have hmw1 := Lib.hid (hm0.out.trans hm1)
  have hs0 := hm0.out.size
  have hs1 := hm1.size
  clear hm1
  replace hC := Lib.hid hC
  replace hR := Lib.hid hR
  replace oC := Lib.hid oC
  go_wp2_with fail
  refine (k2.out _).mono ?_
  rintro e w2 ⟨rfl, rfl⟩
  dsimp only
  have hml : min m 8 ≤ 8 := by omega
  have hmd8 : min m 8 ≤ d := by omega
  generalize min m 8 = k8 at *
  have hlen8 := hL8.len
  generalize ls.take k8 = l8 at *
  obtain ⟨k, hk2, hke⟩ := umod at_ ((k8 : Int) + 1) (by omega) (by omega)
  replace hk2 : k ≤ k8 := by omega
  replace hke := Lib.hid hke
  replace hL8 := Lib.hid hL8
  replace hk8 := Lib.hid hk8
  replace hlt := Lib.hid hlt
  go_upto_region 7 with fail
  go_cut [9] from 25 to 32 (fun v W => v = .int .i64 (k : Int) ∧ W = w1)
  case first =>
    go_wp2_with fail
    go_meet
    exact ⟨by rw [hke.out], rfl⟩
  case rest =>
    obtain ⟨rfl, rfl⟩ := hcut
    have hW8 := Lib.hid (fun W (h : Mod none_ wc W) => (hL8.out.mod0 hmw1.out).mod0 h)
    have u0 : (0 : Int) ≤ (k : Int) := by omega
    have u1 : (k : Int) ≤ (k8 : Int) := by omega
    have u2 : (k8 : Int) ≤ (d : Int) := by omega
    have u3 : (k : Int) ≤ (d : Int) := by omega
    have hpm : l8.Perm (l8.drop k ++ l8.take k) := by
      have : (l8.take k ++ l8.drop k).Perm (l8.drop k ++ l8.take k) := List.perm_append_comm
      rwa [List.take_append_drop] at this
    have mp := make_perm hC.out.sorted hpm
    have oC1 := make_okc oC.out l8
    have km1 := fun W (hc : ChAt W p b C) (h : RdL W L k8 l8) (hA : 0 < k8 → ∀ k, fp L k → ¬ k = b) => make_ok W p b C L k8 d l8 hc oC.out h (by omega) hk8.out hA
    have km2 := fun W p' b' A2 c2 (hc : ChAt W p' b' C) (h : RdL W A2 (k8) (l8.drop k ++ l8.take k)) (hA : 0 < k8 → ∀ k, fp A2 k → ¬ k = b') => make_ok W p' b' C A2 (k8) c2 _ hc oC.out h (by omega) (fun l h => hk8.out l (hpm.mem_iff.2 h)) hA
    generalize makeR C l8 = r1 at *
    generalize makeR C (l8.drop k ++ l8.take k) = r2 at *
    obtain ⟨C1, e1⟩ := r1
    obtain ⟨C2, e2⟩ := r2
    dsimp only at mp oC1
    obtain ⟨mpe, rfl⟩ := mp
    have kcp := Lib.hid (fun W (h : ChAt W p b C) => copy_ok W p b C h)
    have ka := Lib.hid (fun W p b (h : ChAt W p b C1) => all_ok W p b C1 h (by have := oC1.2; omega) oC1.nm)
    have ks := Lib.hid (fun W A1 d1 A2 d2 (hA : RdA W A1 C1.length C1) (hB : RdA W A2 C1.length C1) => by
      have := same_ok W A1 A2 C1.length C1.length d1 d2 C1 C1 hA hB (by have := oC1.2; omega) (by have := oC1.2; omega)
      rw [show sameAc C1 C1 = true from decide_eq_true rfl] at this; exact this)
    have kn := Lib.hid (fun W => check_nil W L k8 d)
    replace km1 := Lib.hid km1
    replace km2 := Lib.hid km2
    replace oC1 := Lib.hid oC1
    replace hpm := Lib.hid hpm
    replace mpe := Lib.hid mpe
    go_upto_region 8 with fail
    go_region_law ((first
      | (refine step_copyL (by rfl) (.const (.slice none 0 0)) (.tmp 35) (by rfl) (by rfl) (by rfl) (rdl_drop (hW8.out _ (Mod.refl _ _).drew) hk2 hmd8) (by omega) ?_; intro A1 c1 w3 ho1 hm1 hf1; replace ho1 := Lib.hid ho1; replace hm1 := Lib.hid hm1; replace hf1 := Lib.hid hf1)
      | (refine step_appL (by rfl) (.tmp 36) (.tmp 39) (by rfl) (by rfl) ho1.out (by rfl) (rdl_take (hW8.out _ ((Mod.refl _ _).drew.trans hm1.out)) hk2) (by omega) ?_; intro A2 c2 w4 ho2 hm2 hA2; rw [show k8 - k + k = k8 by omega] at ho2 ⊢; replace ho2 := Lib.hid ho2; replace hm2 := Lib.hid hm2; replace hA2 := Lib.hid hA2)))
    all_goals
      generalize (if d = k then L else Option.map (fun x => x.add (k * 2)) L) = LL
      have hmA1 := Lib.hid ((hmw1.out.drew).trans hm1.out)
      have hf1w : Fresh wc A1 := hf1.out
      have hmw4 := Lib.hid (hmA1.out.then hm2.out (fun i hi hk => by obtain ⟨a, ha, rfl⟩ := hk; have := hf1w a ha; omega))
      have hmc4 : Mod none_ wc w4 := ((Mod.refl none_ wc).drew.trans hm1.out).then hm2.out (fun i hi hk => by obtain ⟨a, ha, rfl⟩ := hk; have := hf1w a ha; omega)
      have hf2 : Fresh wc A2 := Fresh.app hf1w ((Mod.refl none_ wc).drew.trans hm1.out).size hA2.out
      have hC4 := Lib.hid (hC.out.mod0 hmc4)
      have hbl := hC.out.2.1.lt
      have hpl := hC.out.1.lt
      have hs4 := hmc4.size
      have hL4 := Lib.hid (hW8.out _ hmc4)
      replace hmc4 := Lib.hid hmc4
      replace hf1w := Lib.hid hf1w
      replace hf2 := Lib.hid hf2
      go_wp2_with fail
      refine (kcp.out _ hC4.out).mono ?_
      rintro e w5 ⟨p', b', rfl, hc5, hm5, hp5, hb5⟩
      dsimp only
      have hC5 := Lib.hid (hC4.out.mod0 hm5)
      have hL5 := Lib.hid (hL4.out.mod0 hm5)
      have hO5 := Lib.hid (show RdL w5 A2 (k8) (l8.drop k ++ l8.take k) from Ow.rd (Ow.mod0 ho2.out hm5))
      have hO4 := Lib.hid (Ow.lt ho2.out)
      have hmw5 := Lib.hid (hmw4.out.trans hm5)
      have hs5 := hm5.size
      replace hc5 := Lib.hid hc5
      clear hm5
      go_wp2_with fail
      refine (km1.out _ hC5.out hL5.out (fun h0 k hk he => by have := hlt.out h0 k hk; omega)).mono ?_
      rintro e w6 ⟨rfl, hC6, hm6⟩
      dsimp only
      have hc6 := Lib.hid (hc5.out.mod hm6 (fun he => by have : p' = b := he; omega) (fun he => by have : b' = b := he; omega))
      have hO6 := Lib.hid (hO5.out.mod' hm6 (fun h0 i hi he => by obtain ⟨a, ha, rfl⟩ := hi; have h1 := hf2.out a ha; have h2 : a.block = b := he; omega))
      have hmw6 := Lib.hid (hmw5.out.then hm6 (fun i hi he => by have : i = b := he; omega))
      have hs6 := hm6.size
      replace hC6 := Lib.hid hC6
      clear hm6
      go_wp2_with fail
      have hsep : 0 < k8 → ∀ i, fp A2 i → ¬ i = b' := fun h0 i hi he => by
        have h9 := hO4.out i hi
        omega
      have hh := km2.out w6 p' b' A2 c2 hc6.out hO6.out hsep
      with_reducible refine hh.mono ?_
      rintro e w7 ⟨rfl, hc7, hm7⟩
      dsimp only
      have hC7 := Lib.hid (hC6.out.mod hm7 (fun he => by have : p = b' := he; omega) (fun he => by have : b = b' := he; omega))
      have hmw7 := Lib.hid (hmw6.out.then hm7 (fun i hi he => by have : i = b' := he; omega))
      replace hc7 := Lib.hid hc7
      clear hm7
      have hee : (e1 = 0 ∧ e2 = 0) ∨ ((e1 == 0) = false ∧ (e2 == 0) = false) := by
        by_cases h0 : e1 = 0
        · exact .inl ⟨h0, mpe.out.1 h0⟩
        · exact .inr ⟨by simpa using h0, by simpa using fun h => h0 (mpe.out.2 h)⟩
      rcases hee with ⟨rfl, rfl⟩ | ⟨h1, h2⟩
      all_goals
        go_wp2_with fail
        refine (ka.out _ p b hC7.out).mono ?_
        rintro e w8 ⟨A8, c8, rfl, ho8, hf8, hm8⟩
        dsimp only
        have hc8 := Lib.hid (hc7.out.mod0 hm8)
        have hr8 := Lib.hid (show RdA w8 A8 C1.length C1 from Ow.rd ho8)
        have hmw8 := Lib.hid (hmw7.out.trans hm8)
        clear ho8 hf8 hm8
        go_wp2_with fail
        refine (ka.out _ p' b' hc8.out).mono ?_
        rintro e w9 ⟨A9, c9, rfl, ho9, hf9, hm9⟩
        dsimp only
        have hr9 := Lib.hid (show RdA w9 A9 C1.length C1 from Ow.rd ho9)
        have hr89 := Lib.hid (show RdA w9 A8 C1.length C1 from Rd.mod0 hr8.out hm9)
        have hmw9 := Lib.hid (hmw8.out.trans hm9)
        clear ho9 hf9 hm9
        go_wp2_with fail
        refine (ks.out _ A8 c8 A9 c9 hr89.out hr9.out).mono ?_
        rintro e w10 ⟨rfl, kx, rfl⟩
        dsimp only
        go_wp2_with fail
        refine (kn.out _).mono ?_
        rintro e w11 ⟨rfl, rfl⟩
        dsimp only
        go_wp2_with fail
        go_ret
        exact ⟨rfl, (hmw9.out.drewN kx).below0⟩
end Go.Proofs.Ytaohgefpnndjcaa
/-
  The reference's Right. What its Check answers, in plain words.
-/
namespace Go.Proofs.Ytaohgefpnndjcaa
set_option linter.unusedVariables false
open Go.RowKit
def firstE (f : Lg → Int) : List Lg → Int
  | [] => 0
  | l :: ls => if f l ≠ 0 then f l else firstE f ls
theorem firstE_congr {f g : Lg → Int} : ∀ {ls : List Lg}, (∀ l ∈ ls, f l = g l) → firstE f ls = firstE g ls
  | [], _ => rfl
  | l :: ls, h => by
    unfold firstE
    rw [h l (by simp), firstE_congr (ls := ls) (fun m hm => h m (List.mem_cons_of_mem _ hm))]
theorem all_first : ∀ (ls : List Lg) {C : List Ac}, SortedC C → (ls.map fun l => l.n).Nodup → (allR C ls).2 = firstE (fun l => (postR C l).2) ls
  | [], _, _, _ => rfl
  | l :: ls, C, hs, hn => by
    rw [List.map_cons, List.nodup_cons] at hn
    have hne : ∀ m ∈ ls, m.n ≠ l.n := fun m hm e => hn.1 (List.mem_map.2 ⟨m, hm, e⟩)
    unfold firstE
    show (if (postR C l).2 ≠ 0 then postR C l else allR (postR C l).1 ls).2 = _
    by_cases h0 : (postR C l).2 = 0
    · rw [if_neg (by omega), if_neg (by omega)]
      rw [(post_eff hs h0).2, all_first ls (upd_sorted hs l) hn.2]
      exact firstE_congr fun m hm => post_agree (get_upd_other (fun e => hne m hm e.symm) C)
    · rw [if_pos h0, if_pos h0]
def checkE (C : List Ac) (l : Lg) : Int :=
  match getC C l.n with
  | none => 6
  | some a => if (actR (0 - l.x)).2 ≠ 0 ∨ (actR (a.h + l.x)).2 ≠ 0 then 2 else if 0 < (actR (0 - l.x)).1 ∧ freeB a (actR (0 - l.x)).1 = false then 9 else 0
theorem actR_two {x : Int} (h : (actR x).2 ≠ 0) : (actR x).2 = 2 := by
  unfold actR at h ⊢
  cases hi : inI x
  · rfl
  · rw [hi] at h; exact absurd rfl h
theorem check_post {C : List Ac} (ho : OkC C) (l : Lg) : (postR C l).2 = checkE C l := by
  unfold postR checkE
  cases hg : getC C l.n with
  | none => rfl
  | some a =>
    dsimp only
    by_cases h1 : (actR (0 - l.x)).2 ≠ 0
    · rw [if_pos h1, if_pos (.inl h1)]; exact actR_two h1
    · rw [if_neg h1]
      have h2 : (actR (0 - l.x)).2 = 0 := by omega
      obtain ⟨_, h3⟩ := actR_zero h2
      unfold turnR
      rw [hg]
      dsimp only
      have e : (giveA (actR (0 - l.x)).1 a).2 = (actR (a.h + l.x)).2 := by
        unfold giveA
        dsimp only
        rw [h3, show a.h - (0 - l.x) = a.h + l.x by omega]
      have e2 : ¬ (giveA (actR (0 - l.x)).1 a).1.s < 0 := by
        have := (ho.wf a (getC_mem hg)).2.2.2.1
        unfold giveA
        dsimp only
        omega
      rw [e]
      by_cases h4 : (actR (a.h + l.x)).2 ≠ 0
      · rw [if_pos h4, if_pos (.inr h4)]; exact actR_two h4
      · rw [if_neg h4]
        conv => rhs; rw [if_neg (by rintro (h | h); exact h1 h; exact h4 h)]
        by_cases h5 : 0 < (actR (0 - l.x)).1 ∧ freeB a (actR (0 - l.x)).1 = false
        · rw [if_pos h5, if_pos h5]
        · rw [if_neg h5, if_neg h5, if_neg e2]
theorem right_dup {ls : List Lg} {i j : Nat} (hij : i < j) (hj : j < ls.length) (h : (ls[i]'(by omega)).n = ls[j].n) : rightB ls = false := by
  cases hr : rightB ls with
  | false => rfl
  | true =>
    obtain ⟨_, hn, _⟩ := (right_iff ls).1 hr
    have := (List.pairwise_iff_getElem.1 hn) i j (by rw [List.length_map]; omega) (by rw [List.length_map]; exact hj) hij
    simp only [List.getElem_map] at this
    exact absurd h this
set_option maxRecDepth 100000 in
set_option maxHeartbeats 2000000 in
theorem rright_ok (w : World) (A : Option Addr) (n c : Nat) (ls : List Lg) (h : RdL w A n ls) (hn : n ≤ 1000) (hz : ∀ l ∈ ls, LgOk l) :
    Calls Try.prog 36 #[.slice A n c] w fun e w' => e = .returned (.bool (rightB ls)) ∧ ∃ k, w' = w.drewN k := by
  have hl := h.len
  have cn := Lib.hid (fun W (s : List UInt8) (h : (txt s).size ≤ maxLen) => rname_ok W (txt s) h)
  have hg : ∀ j, j < n → ∃ b o l, A = some ⟨b, o, none⟩ ∧ l ∈ ls ∧ ls[j]? = some l ∧ w.cell? ⟨b, o + j*2, none⟩ = some (.string (txt l.n)) ∧ w.cell? ⟨b, o + j*2 + 1, none⟩ = some (.int .i64 l.x) := fun j hj => rdl_get h hj
  replace h := Lib.hid h
  replace hz := Lib.hid hz
  replace hg := Lib.hid hg
  go_enter Try.func36, Try.ntmps36
  go_wp2_with fail
  go_loopw [3] (fun x wr => ∃ j : Nat, x = .int .i64 j ∧ j ≤ n ∧ (∀ l ∈ ls.take j, okLeg l = true) ∧ ((ls.take j).map fun l => l.n).Nodup ∧ ∃ k, wr = w.drewN k) (fun x _ => n - (intOf x).toNat)
  case atStart => exact ⟨0, rfl, by omega, (fun l h => by cases h), List.nodup_nil, 0, rfl⟩
  case round =>
    obtain ⟨j, rfl, hj, hall, hnd, kk, rfl⟩ := hrel
    by_cases hlt : j < n
    · obtain ⟨g, o, l, rfl, hmem, hjl, y1, y2⟩ := hg.out j hlt
      have hjlt : j < ls.length := by omega
      have hjl2 : ls[j] = l := by rw [List.getElem?_eq_getElem hjlt] at hjl; injection hjl
      have hlok := hz.out l hmem
      have hno : okLeg l = false → rightB ls = false := right_no hmem
      have hc := Lib.hid (fun W => cn.out W l.n hlok.1)
      rw [show (txt l.n).data.toList = l.n from rfl] at hc
      cases hb : nameB l.n with
      | false =>
        rw [hb] at hc
        have hres := hno (by unfold okLeg; rw [hb]; rfl)
        clear hno
        replace hall := Lib.hid hall
        replace hnd := Lib.hid hnd
        replace hmem := Lib.hid hmem
        replace hjl := Lib.hid hjl
        replace hjl2 := Lib.hid hjl2
        replace hlok := Lib.hid hlok
        replace hb := Lib.hid hb
        replace hres := Lib.hid hres
        go_wp2_with fail
        refine (hc.out _).mono ?_
        rintro e w1 ⟨rfl, rfl⟩
        dsimp only
        go_wp2_with fail
        go_ret
        exact ⟨by rw [hres.out]; rfl, _, rfl⟩
      | true =>
        rw [hb] at hc
        by_cases hx0 : l.x = 0
        · have hres := hno (by unfold okLeg; rw [hb, hx0]; rfl)
          rw [hx0] at y2
          clear hno
          replace hall := Lib.hid hall
          replace hnd := Lib.hid hnd
          replace hmem := Lib.hid hmem
          replace hjl := Lib.hid hjl
          replace hjl2 := Lib.hid hjl2
          replace hlok := Lib.hid hlok
          replace hb := Lib.hid hb
          replace hres := Lib.hid hres
          replace hx0 := Lib.hid hx0
          go_wp2_with fail
          refine (hc.out _).mono ?_
          rintro e w1 ⟨rfl, rfl⟩
          dsimp only
          go_wp2_with fail
          go_ret
          exact ⟨by rw [hres.out]; rfl, _, rfl⟩
        · have hok : okLeg l = true := by unfold okLeg; rw [hb]; simpa using hx0
          obtain ⟨x, hx⟩ : ∃ x, l.x = x := ⟨_, rfl⟩
          have e2 : (x == 0) = false := by rw [← hx]; simpa using hx0
          rw [hx] at y2
          clear hno
          replace hall := Lib.hid hall
          replace hnd := Lib.hid hnd
          replace hmem := Lib.hid hmem
          replace hjl := Lib.hid hjl
          replace hlok := Lib.hid hlok
          replace hb := Lib.hid hb
          replace hx0 := Lib.hid hx0
          replace hx := Lib.hid hx
          replace hok := Lib.hid hok
          go_wp2_with fail
          refine (hc.out _).mono ?_
          rintro e w1 ⟨rfl, rfl⟩
          dsimp only
          go_wp2_with fail
          go_loopw [4] (fun x wr2 => ∃ i : Nat, x = .int .i64 i ∧ i ≤ j ∧ (∀ y ∈ ls.take i, y.n ≠ l.n) ∧ ∃ k, wr2 = w.drewN k) (fun x _ => j - (intOf x).toNat)
          case atStart => exact ⟨0, rfl, by omega, (fun l h => by cases h), kk, rfl⟩
          case round =>
            obtain ⟨i, rfl, hi, hne, k2, rfl⟩ := hrel
            by_cases hij : i < j
            · obtain ⟨g', o', y, hge, hmy, hiy, u1, u2⟩ := hg.out i (by omega)
              have hge1 : g = g' ∧ o = o' := by injection hge with h; injection h with h1 h2; exact ⟨h1, h2⟩
              obtain ⟨rfl, rfl⟩ := hge1
              clear hge
              have hilt : i < ls.length := by omega
              have hiy2 : ls[i] = y := by rw [List.getElem?_eq_getElem hilt] at hiy; injection hiy
              by_cases hyn : y.n = l.n
              · have hres := right_dup hij hjlt (by rw [hiy2, hjl2]; exact hyn)
                rw [hyn] at u1
                replace hne := Lib.hid hne
                replace hmy := Lib.hid hmy
                replace hiy := Lib.hid hiy
                replace hiy2 := Lib.hid hiy2
                replace hyn := Lib.hid hyn
                replace hres := Lib.hid hres
                replace hjl2 := Lib.hid hjl2
                go_wp2_with fail
                go_quiet (fail)
                go_wp2_with fail
                go_ret
                exact ⟨by rw [hres.out]; rfl, _, by rw [World.drewN_drewN]⟩
              · have e3 : (y.n == l.n) = false := by simpa using hyn
                have hnx : ∀ z ∈ ls.take (i + 1), z.n ≠ l.n := fun z hz' => by
                  rw [List.take_succ_eq_append_getElem hilt, List.mem_append] at hz'
                  rcases hz' with hz' | hz'
                  · exact hne z hz'
                  · simp at hz'; rw [hz', hiy2]; exact hyn
                generalize y.n = yn at u1 e3
                replace hne := Lib.hid hne
                replace hmy := Lib.hid hmy
                replace hiy := Lib.hid hiy
                replace hiy2 := Lib.hid hiy2
                replace hyn := Lib.hid hyn
                replace hnx := Lib.hid hnx
                replace hjl2 := Lib.hid hjl2
                go_wp2_with fail
                go_quiet (fail)
                go_wp2_with fail
                go_roundw
                case rel => exact ⟨i + 1, by go_num, by omega, hnx.out, _, rfl⟩
                case measure => simp [intOf]; omega
            · have hieq : i = j := by omega
              subst hieq
              have htk : ls.take (i + 1) = ls.take i ++ [l] := by rw [List.take_succ_eq_append_getElem hjlt, hjl2]
              have hall2 : ∀ y ∈ ls.take (i + 1), okLeg y = true := fun y hy => by
                rw [htk, List.mem_append] at hy
                rcases hy with hy | hy
                · exact hall.out y hy
                · simp at hy; subst hy; exact hok.out
              have hnd2 : ((ls.take (i + 1)).map fun l => l.n).Nodup := by
                rw [htk, List.map_append, List.nodup_append]
                refine ⟨hnd.out, by simp, ?_⟩
                intro a ha b hb' hab
                obtain ⟨z, hz', rfl⟩ := List.mem_map.1 ha
                simp at hb'
                exact hne z hz' (by rw [hab, hb'])
              replace hne := Lib.hid hne
              replace hall2 := Lib.hid hall2
              replace hnd2 := Lib.hid hnd2
              replace htk := Lib.hid htk
              replace hjl2 := Lib.hid hjl2
              go_wp2_with fail
              go_roundw
              case rel => exact ⟨i + 1, by go_num, by omega, hall2.out, hnd2.out, _, rfl⟩
              case measure => simp [intOf]; omega
    · have hjn : j = n := by omega
      subst hjn
      have hfull : ls.take j = ls := List.take_of_length_le (by omega)
      rw [hfull] at hall hnd
      have hres : rightB ls = (decide (2 ≤ j) && decide (j ≤ 6)) := by
        rw [Bool.eq_iff_iff, right_iff, Bool.and_eq_true, decide_eq_true_iff, decide_eq_true_iff, hl]
        exact ⟨fun h => h.2.2, fun h => ⟨hall, hnd, h⟩⟩
      clear hfull
      by_cases h2 : 2 ≤ j
      · have d2 : decide ((2 : Int) ≤ (j : Int)) = true := decide_eq_true (by omega)
        rw [decide_eq_true h2, Bool.true_and] at hres
        replace hall := Lib.hid hall
        replace hnd := Lib.hid hnd
        replace hres := Lib.hid hres
        go_wp2_with fail
        go_ret
        refine ⟨?_, _, rfl⟩
        rw [hres.out]
        show Ending.returned (.bool (decide ((j : Int) ≤ 6))) = _
        congr 2
        exact decide_eq_decide.2 (by omega)
      · have d2 : decide ((2 : Int) ≤ (j : Int)) = false := decide_eq_false (by omega)
        rw [decide_eq_false h2, Bool.false_and] at hres
        replace hall := Lib.hid hall
        replace hnd := Lib.hid hnd
        replace hres := Lib.hid hres
        go_wp2_with fail
        go_ret
        exact ⟨by rw [hres.out]; rfl, _, rfl⟩
end Go.Proofs.Ytaohgefpnndjcaa
/-
  Mirror and the reference's Mirror; the reference's Same of legs.
-/
namespace Go.Proofs.Ytaohgefpnndjcaa
set_option linter.unusedVariables false
open Go.RowKit
def lgV (l : Lg) : Value := .agg #[.string (txt l.n), .int .i64 l.x]
set_option maxRecDepth 100000 in
theorem eqIn_lg (W : World) (x y : Lg) : (Op.equalIn 10000 44 (lgV x) (lgV y)).run Try.prog W = .ok (decide (x = y)) W := by
  unfold lgV
  rw [run_equalIn_agg W 9999 44 _ _ (by kernel_rfl) (by kernel_rfl)]
  obtain ⟨fs, hfs⟩ : ∃ fs, (Try.prog.fieldsOf 44).toList = fs := ⟨_, rfl⟩
  rw [hfs]
  have e : fs = (Try.prog.fieldsOf 44).toList := hfs.symm
  simp [go_sem] at e
  clear hfs
  subst e
  obtain ⟨xn, xh⟩ := x
  obtain ⟨yn, yh⟩ := y
  by_cases h1 : xn = yn
  · subst h1
    by_cases h2 : xh = yh
    · subst h2
      simp [go_sem]
    · simp [go_sem, h2]
  · simp [go_sem, h1]
theorem neq_lg (W : World) (x y : Lg) : (binOp .neq 44 (lgV x) (lgV y)).run Try.prog W = .ok (.bool (!decide (x = y))) W := by
  have := eqIn_lg W x y
  unfold lgV at *
  rw [run_neq_struct, this]; rfl
theorem eql_lg (W : World) (x y : Lg) : (binOp .eql 44 (lgV x) (lgV y)).run Try.prog W = .ok (.bool (decide (x = y))) W := by
  have := eqIn_lg W x y
  unfold lgV at *
  rw [run_eql_struct, this]; rfl
def sameLg (C D : List Lg) : Bool := decide (C = D)
set_option maxRecDepth 100000 in
set_option maxHeartbeats 2000000 in
theorem samel_ok (w : World) (A B : Option Addr) (n m c d : Nat) (C D : List Lg) (hA : RdL w A n C) (hB : RdL w B m D) (hn : n ≤ 1000) (hm : m ≤ 1000) :
    Calls Try.prog 21 #[.slice A n c, .slice B m d] w fun e w' => e = .returned (.bool (sameLg C D)) ∧ ∃ k, w' = w.drewN k := by
  have la := hA.len
  have lb := hB.len
  by_cases hnm : n = m
  · subst hnm
    replace hA := Lib.hid hA
    replace hB := Lib.hid hB
    replace la := Lib.hid la
    replace lb := Lib.hid lb
    go_enter Try.func21, Try.ntmps21
    go_wp2_with fail
    go_loopw [5] (fun x wr => ∃ j : Nat, x = .int .i64 j ∧ j ≤ n ∧ C.take j = D.take j ∧ ∃ k, wr = w.drewN k) (fun x _ => n - (intOf x).toNat)
    case atStart => exact ⟨0, rfl, by omega, rfl, 0, rfl⟩
    case round =>
      obtain ⟨j, rfl, hj, htk, k, rfl⟩ := hrel
      by_cases hlt : j < n
      · have hjC : j < C.length := by rw [la.out]; exact hlt
        have hjD : j < D.length := by rw [lb.out]; exact hlt
        obtain ⟨b, o, x0, rfl, -, hx0, a1, a2⟩ := rdl_get (w := w.drewN k) (Rd.drewN hA.out k) hlt
        rw [List.getElem?_eq_getElem hjC] at hx0
        injection hx0 with hx0
        subst hx0
        obtain ⟨b', o', y0, rfl, -, hy0, b1, b2⟩ := rdl_get (w := w.drewN k) (Rd.drewN hB.out k) hlt
        rw [List.getElem?_eq_getElem hjD] at hy0
        injection hy0 with hy0
        subst hy0
        have t1 : C.take (j+1) = C.take j ++ [C[j]] := by rw [List.take_succ_eq_append_getElem hjC]
        have t2 : D.take (j+1) = D.take j ++ [D[j]] := by rw [List.take_succ_eq_append_getElem hjD]
        generalize C[j] = x at *
        generalize D[j] = y at *
        generalize hw : w.drewN k = w1 at *
        have hne := fun W => neq_lg W x y
        unfold lgV at hne
        have hdiff : C.take j = D.take j → ¬ x = y → ¬ C = D := by
          intro h1 h2 h3
          subst h3
          rw [t1] at t2
          have := List.append_cancel_left t2
          simp at this
          exact h2 this
        by_cases hxy : x = y
        · rw [decide_eq_true hxy] at hne
          replace hw := Lib.hid hw
          replace t1 := Lib.hid t1
          replace t2 := Lib.hid t2
          replace htk := Lib.hid htk
          replace hjC := Lib.hid hjC
          replace hjD := Lib.hid hjD
          replace hxy := Lib.hid hxy
          replace hdiff := Lib.hid hdiff
          go_wp2_with (go_quiet (fail))
          go_roundw
          case rel => exact ⟨j + 1, by go_num, by omega, by rw [t1.out, t2.out, htk.out, hxy.out], _, by rw [← hw.out, World.drewN_drewN]⟩
          case measure => simp [intOf]; omega
        · rw [decide_eq_false hxy] at hne
          have hno : sameLg C D = false := decide_eq_false (hdiff htk hxy)
          replace hw := Lib.hid hw
          replace t1 := Lib.hid t1
          replace t2 := Lib.hid t2
          replace htk := Lib.hid htk
          replace hjC := Lib.hid hjC
          replace hjD := Lib.hid hjD
          replace hxy := Lib.hid hxy
          replace hdiff := Lib.hid hdiff
          go_wp2_with (go_quiet (fail))
          go_ret
          exact ⟨by rw [hno]; rfl, _, by rw [← hw.out, World.drewN_drewN]⟩
      · have hjn : j = n := by omega
        subst hjn
        have heq : sameLg C D = true := by
          refine decide_eq_true ?_
          rw [List.take_of_length_le (by have := la.out; omega), List.take_of_length_le (by have := lb.out; omega)] at htk
          exact htk
        replace htk := Lib.hid htk
        go_wp2_with fail
        go_ret
        exact ⟨by rw [heq]; rfl, k, rfl⟩
  · have hno : sameLg C D = false := decide_eq_false (fun h => hnm (by rw [← la, ← lb, h]))
    have hnm2 : ((n : Int) == (m : Int)) = false := by simp; omega
    replace hA := Lib.hid hA
    replace hB := Lib.hid hB
    replace la := Lib.hid la
    replace lb := Lib.hid lb
    replace hnm := Lib.hid hnm
    go_enter Try.func21, Try.ntmps21
    go_wp2_with fail
    go_ret
    exact ⟨by rw [hno]; rfl, 0, rfl⟩
theorem appL {w : World} {ops : Array Oper} {rest : List Oper} {o : Oper} {a : Act} {Q : Exit → Act → World → Prop} (hgd : o.guard = none) (s x : Operand)
    (ho : o.op = .call { callee := .builtin .append, args := #[s, x], argTypes := #[23, 23] })
    {A : Option Addr} {n c : Nat} {xs : List Lg} (hs : a.eval s = .slice A n c) (hown : OwL w A n c xs)
    {S : Option Addr} {m d : Nat} {news : List Lg} (hx : a.eval x = .slice S m d) (hr : RdL w S m news) (hb : (n + m) * 24 ≤ 140737488355328)
    (h : ∀ A' c' w', OwL w' A' (n + m) c' (xs ++ news) → Mod (fp A) w w' → (A' = A ∨ A' = some ⟨w.heap.size, 0, none⟩) → wpList Try.prog ops Q rest (a.put o.dst (.slice A' (n + m) c')) w') : wpList Try.prog ops Q (o :: rest) a w := by
  obtain ⟨i0, hi, hz0, hz1, hz2⟩ := info_parts lginfo
  refine wpList_append_ow hgd s x 23 ho 44 i0 _ 2 24 Try.underlying23 hi hz0 hz1 hz2 rfl (by omega) A n c (lgs xs) hs hown S m d (lgs news) hx hr (lgs_one _) (by omega) (by omega) ?_
  intro A' c' w' h1
  rw [← lgs_append] at h1
  exact h A' c' w' h1
theorem rdl_one (w : World) (e : TypeId) (g : Nat) (hg : g = w.heap.size) (l : Lg) : RdL (w.alloc (.cells #[.string (txt l.n), .int .i64 l.x] e)) (some ⟨g, 0, none⟩) 1 [l] := by
  subst hg
  exact rdn w e 2 1 w.heap.size #[.string (txt l.n), .int .i64 l.x] (0, 0) rfl rfl
def negL (l : Lg) : Lg := ⟨l.n, -l.x⟩
def MirPost (ls : List Lg) (w : World) (e : Ending) (w' : World) : Prop := (∃ A' c', e = .returned (.tuple #[.slice A' ls.length c', .int .i64 0]) ∧ OwL w' A' ls.length c' (ls.map negL) ∧ Fresh w A' ∧ (∀ l ∈ ls, (actR (0 - l.x)).2 = 0) ∧ Mod none_ w w') ∨ (e = .returned (.tuple #[.slice none 0 0, .int .i64 2]) ∧ (∃ l ∈ ls, (actR (0 - l.x)).2 ≠ 0) ∧ Mod none_ w w')
set_option maxRecDepth 100000 in
set_option maxHeartbeats 2000000 in
theorem mirror_ok (w : World) (A : Option Addr) (n c : Nat) (ls : List Lg) (h : RdL w A n ls) (hn : n ≤ 1000) (hz : ∀ l ∈ ls, LgOk l) :
    Calls Try.prog 22 #[.slice A n c] w (MirPost ls w) := by
  have hl := h.len
  replace h := Lib.hid h
  replace hz := Lib.hid hz
  go_enter Try.func22, Try.ntmps22
  go_wp2_with fail
  go_loopw [4, 11] (fun v x wr => ∃ j : Nat, x = .int .i64 j ∧ j ≤ n ∧ ∃ A' c', v = .slice A' j c' ∧ OwL wr A' j c' ((ls.map negL).take j) ∧ Fresh w A' ∧ (∀ l ∈ ls.take j, (actR (0 - l.x)).2 = 0) ∧ Mod none_ w wr) (fun _ x _ => n - (intOf x).toNat)
  case atStart => exact ⟨0, rfl, by omega, none, 0, rfl, Ow.nil _ _ _, (fun _ h => by cases h), (fun l h => by cases h), Mod.refl _ _⟩
  case round =>
    obtain ⟨j, rfl, hj, A', c', rfl, how, hf, hall, hm⟩ := hrel
    by_cases hlt : j < n
    · obtain ⟨g, o, l, rfl, hmem, hjl, y1, y2⟩ := rdl_get (h.out.mod0 hm) hlt
      have hjlt : j < ls.length := by omega
      have hjl2 : ls[j] = l := by rw [List.getElem?_eq_getElem hjlt] at hjl; injection hjl
      have hnx : ((ls.map negL).take j) ++ [negL l] = ((ls.map negL).take (j+1)) := by
        rw [List.take_succ_eq_append_getElem (by simpa using hjlt), List.getElem_map, hjl2]
      have hall2 : (actR (0 - l.x)).2 = 0 → ∀ y ∈ ls.take (j + 1), (actR (0 - y.x)).2 = 0 := fun h0 y hy => by
        rw [List.take_succ_eq_append_getElem hjlt, List.mem_append] at hy
        rcases hy with hy | hy
        · exact hall y hy
        · simp at hy; rw [hy, hjl2]; exact h0
      have hgl := World.block_lt_of_cell? wr _ y1
      have cl := Lib.hid (fun W => (less_act W 0 l.x (by unfold I64; omega) (hz.out l hmem).2).mono (fun e w' (hp : _ ∧ W = w') => (⟨hp.1, by obtain ⟨_, rfl⟩ := hp; exact Mod.refl _ _⟩ : APost (0 - l.x) W e w')))
      unfold APost at cl
      have hng : (actR (0 - l.x)).2 = 0 → (actR (0 - l.x)).1 = 0 - l.x := fun h0 => (actR_zero h0).2
      have hno := fun h0 : (actR (0 - l.x)).2 ≠ 0 => actR_two h0
      obtain ⟨⟨r1, r2⟩, hrr⟩ : ∃ r, actR (0 - l.x) = r := ⟨_, rfl⟩
      rw [hrr] at cl hall2 hng hno
      dsimp only at cl hall2 hng hno
      have hrr2 : (actR (0 - l.x)).2 = r2 := by rw [hrr]
      obtain ⟨x, hx⟩ : ∃ x, l.x = x := ⟨_, rfl⟩
      have hnl : negL l = ⟨l.n, -x⟩ := by unfold negL; rw [hx]
      rw [hx] at y2 cl hng
      rw [hnl] at hnx
      obtain ⟨ln, hln⟩ : ∃ v, l.n = v := ⟨_, rfl⟩
      rw [hln] at y1 hnx
      by_cases h2 : r2 = 0
      · subst h2
        have hh := hall2 rfl
        have hr1 : r1 = -x := by have := hng rfl; omega
        subst hr1
        clear hall2 hng hno hrr2 hnl
        replace how := Lib.hid how
        replace hf := Lib.hid hf
        replace hall := Lib.hid hall
        replace hm := Lib.hid hm
        replace hmem := Lib.hid hmem
        replace hjl := Lib.hid hjl
        replace hjl2 := Lib.hid hjl2
        replace hnx := Lib.hid hnx
        replace hrr := Lib.hid hrr
        replace hx := Lib.hid hx
        replace hln := Lib.hid hln
        replace hh := Lib.hid hh
        go_wp2_with fail
        refine (cl.out _).mono ?_
        rintro e w1 ⟨rfl, hm1⟩
        dsimp only
        have hmA := Lib.hid (((Mod.refl none_ wr).alloc (.cells #[.string (txt ln), .int .i64 x] 44)).trans hm1)
        have hq : w1.cell? ⟨wr.heap.size, 0, none⟩ = some (.string (txt ln)) := ((Blk.new wr 44 #[.string (txt ln), .int .i64 x]).mod hm1 (fun h => h)).cell_ rfl
        clear hm1
        go_wp2_with (at_builtin; go_loud (refine appL rfl (.tmp 24) (.tmp 29) rfl rfl (Ow.mod0 how.out (hmA.out.alloc _)) rfl (rdl_one w1 _ _ rfl ⟨ln, -x⟩) (by omega) ?_; intro A2 c2 w2 ho2 hm2 hA2; replace ho2 := Lib.hid ho2; replace hm2 := Lib.hid hm2; replace hA2 := Lib.hid hA2))
        go_roundw
        case rel =>
          refine ⟨j + 1, by go_num, by omega, A2, c2, rfl, ?_, Fresh.app hf.out ((hm.out.trans hmA.out).alloc _).size hA2.out, hh.out, ((hm.out.trans hmA.out).alloc _).app hf.out hm2.out⟩
          rw [← hnx.out]; exact ho2.out
        case measure => simp [intOf]; omega
      · have e1 : (r2 == 0) = false := by simpa using h2
        have hr2 := hno h2
        subst hr2
        clear hall2 hng hno hnl
        replace how := Lib.hid how
        replace hf := Lib.hid hf
        replace hall := Lib.hid hall
        replace hm := Lib.hid hm
        replace hmem := Lib.hid hmem
        replace hjl := Lib.hid hjl
        replace hjl2 := Lib.hid hjl2
        replace hnx := Lib.hid hnx
        replace hrr := Lib.hid hrr
        replace hx := Lib.hid hx
        replace hln := Lib.hid hln
        replace hrr2 := Lib.hid hrr2
        go_wp2_with fail
        refine (cl.out _).mono ?_
        rintro e w1 ⟨rfl, hm1⟩
        dsimp only
        have hmA := Lib.hid (((Mod.refl none_ wr).alloc (.cells #[.string (txt ln), .int .i64 x] 44)).trans hm1)
        clear hm1
        go_wp2_with fail
        go_ret2
        exact .inr ⟨rfl, ⟨l, hmem.out, by rw [hrr2.out]; omega⟩, hm.out.trans hmA.out⟩
    · have hfull : ls.take j = ls := List.take_of_length_le (by omega)
      have hfull2 : (ls.map negL).take j = ls.map negL := List.take_of_length_le (by rw [List.length_map]; omega)
      rw [hfull2] at how
      rw [hfull] at hall
      have hjn : j = ls.length := by omega
      subst hjn
      clear hfull hfull2
      replace how := Lib.hid how
      replace hf := Lib.hid hf
      replace hall := Lib.hid hall
      replace hm := Lib.hid hm
      go_wp2_with fail
      go_ret2
      exact .inl ⟨A', c', rfl, how.out, hf.out, hall.out, hm.out⟩
set_option maxRecDepth 100000 in
set_option maxHeartbeats 2000000 in
theorem rmirror_ok (w : World) (A : Option Addr) (n c : Nat) (ls : List Lg) (h : RdL w A n ls) (hn : n ≤ 1000) (hz : ∀ l ∈ ls, LgOk l) :
    Calls Try.prog 23 #[.slice A n c] w (MirPost ls w) := by
  have hl := h.len
  replace h := Lib.hid h
  replace hz := Lib.hid hz
  go_enter Try.func23, Try.ntmps23
  go_wp2_with fail
  go_loopw [4, 5] (fun v x wr => ∃ j : Nat, x = .int .i64 j ∧ j ≤ n ∧ ∃ A' c', v = .slice A' j c' ∧ OwL wr A' j c' ((ls.map negL).take j) ∧ Fresh w A' ∧ (∀ l ∈ ls.take j, (actR (0 - l.x)).2 = 0) ∧ Mod none_ w wr) (fun _ x _ => n - (intOf x).toNat)
  case atStart => exact ⟨0, rfl, by omega, none, 0, rfl, Ow.nil _ _ _, (fun _ h => by cases h), (fun l h => by cases h), Mod.refl _ _⟩
  case round =>
    obtain ⟨j, rfl, hj, A', c', rfl, how, hf, hall, hm⟩ := hrel
    by_cases hlt : j < n
    · obtain ⟨g, o, l, rfl, hmem, hjl, y1, y2⟩ := rdl_get (h.out.mod0 hm) hlt
      have hjlt : j < ls.length := by omega
      have hjl2 : ls[j] = l := by rw [List.getElem?_eq_getElem hjlt] at hjl; injection hjl
      have hnx : ((ls.map negL).take j) ++ [negL l] = ((ls.map negL).take (j+1)) := by
        rw [List.take_succ_eq_append_getElem (by simpa using hjlt), List.getElem_map, hjl2]
      have hall2 : (actR (0 - l.x)).2 = 0 → ∀ y ∈ ls.take (j + 1), (actR (0 - y.x)).2 = 0 := fun h0 y hy => by
        rw [List.take_succ_eq_append_getElem hjlt, List.mem_append] at hy
        rcases hy with hy | hy
        · exact hall y hy
        · simp at hy; rw [hy, hjl2]; exact h0
      have hgl := World.block_lt_of_cell? wr _ y1
      have cl := Lib.hid (fun W => (rless_ok W 0 l.x (by unfold I64; omega) (hz.out l hmem).2).mono (fun e w' hp => SPost.act hp))
      unfold APost at cl
      have hng : (actR (0 - l.x)).2 = 0 → (actR (0 - l.x)).1 = 0 - l.x := fun h0 => (actR_zero h0).2
      have hno := fun h0 : (actR (0 - l.x)).2 ≠ 0 => actR_two h0
      obtain ⟨⟨r1, r2⟩, hrr⟩ : ∃ r, actR (0 - l.x) = r := ⟨_, rfl⟩
      rw [hrr] at cl hall2 hng hno
      dsimp only at cl hall2 hng hno
      have hrr2 : (actR (0 - l.x)).2 = r2 := by rw [hrr]
      obtain ⟨x, hx⟩ : ∃ x, l.x = x := ⟨_, rfl⟩
      have hnl : negL l = ⟨l.n, -x⟩ := by unfold negL; rw [hx]
      rw [hx] at y2 cl hng
      rw [hnl] at hnx
      obtain ⟨ln, hln⟩ : ∃ v, l.n = v := ⟨_, rfl⟩
      rw [hln] at y1 hnx
      by_cases h2 : r2 = 0
      · subst h2
        have hh := hall2 rfl
        have hr1 : r1 = -x := by have := hng rfl; omega
        subst hr1
        clear hall2 hng hno hrr2 hnl
        replace how := Lib.hid how
        replace hf := Lib.hid hf
        replace hall := Lib.hid hall
        replace hm := Lib.hid hm
        replace hmem := Lib.hid hmem
        replace hjl := Lib.hid hjl
        replace hjl2 := Lib.hid hjl2
        replace hnx := Lib.hid hnx
        replace hrr := Lib.hid hrr
        replace hx := Lib.hid hx
        replace hln := Lib.hid hln
        replace hh := Lib.hid hh
        go_wp2_with fail
        refine (cl.out _).mono ?_
        rintro e w1 ⟨rfl, hm1⟩
        dsimp only
        have hmA := Lib.hid hm1
        have hq := hm1.cell_some y1 (fun h => h)
        have hgl1 := World.block_lt_of_cell? w1 _ hq
        clear hm1 y1 y2
        go_wp2_with (at_builtin; go_loud (refine appL rfl (.tmp 26) (.tmp 34) rfl rfl (Ow.mod0 how.out (hmA.out.alloc _)) rfl (rdl_one w1 _ _ rfl ⟨ln, -x⟩) (by omega) ?_; intro A2 c2 w2 ho2 hm2 hA2; replace ho2 := Lib.hid ho2; replace hm2 := Lib.hid hm2; replace hA2 := Lib.hid hA2))
        go_roundw
        case rel =>
          refine ⟨j + 1, by go_num, by omega, A2, c2, rfl, ?_, Fresh.app hf.out ((hm.out.trans hmA.out).alloc _).size hA2.out, hh.out, ((hm.out.trans hmA.out).alloc _).app hf.out hm2.out⟩
          rw [← hnx.out]; exact ho2.out
        case measure => simp [intOf]; omega
      · have e1 : (r2 == 0) = false := by simpa using h2
        have hr2 := hno h2
        subst hr2
        clear hall2 hng hno hnl
        replace how := Lib.hid how
        replace hf := Lib.hid hf
        replace hall := Lib.hid hall
        replace hm := Lib.hid hm
        replace hmem := Lib.hid hmem
        replace hjl := Lib.hid hjl
        replace hjl2 := Lib.hid hjl2
        replace hnx := Lib.hid hnx
        replace hrr := Lib.hid hrr
        replace hx := Lib.hid hx
        replace hln := Lib.hid hln
        replace hrr2 := Lib.hid hrr2
        go_wp2_with fail
        refine (cl.out _).mono ?_
        rintro e w1 ⟨rfl, hm1⟩
        dsimp only
        have hmA := Lib.hid hm1
        clear hm1 y1 y2
        go_wp2_with fail
        go_ret2
        exact .inr ⟨rfl, ⟨l, hmem.out, by rw [hrr2.out]; omega⟩, hm.out.trans hmA.out⟩
    · have hfull : ls.take j = ls := List.take_of_length_le (by omega)
      have hfull2 : (ls.map negL).take j = ls.map negL := List.take_of_length_le (by rw [List.length_map]; omega)
      rw [hfull2] at how
      rw [hfull] at hall
      have hjn : j = ls.length := by omega
      subst hjn
      clear hfull hfull2
      replace how := Lib.hid how
      replace hf := Lib.hid hf
      replace hall := Lib.hid hall
      replace hm := Lib.hid hm
      go_wp2_with fail
      go_ret2
      exact .inl ⟨A', c', rfl, how.out, hf.out, hall.out, hm.out⟩
end Go.Proofs.Ytaohgefpnndjcaa
/-
  append of so many zeros onto nil (slices.Grow). No condition.
-/
namespace Go.Proofs.Ytaohgefpnndjcaa
set_option linter.unusedVariables false
open Go.RowKit

theorem run_append_zeros_nil {P : Program} (w : World) (t u ty e : TypeId) (k : IntKind) (i : TypeInfo) (z : Value) (ht : P.underlying t = some (.slice e)) (hu : P.underlying u = some (.int k)) (hi : P.info? e = some i) (hz : i.zero = some z)
    (n : Nat) (h0 : 0 < n) (h48 : n * i.bytes ≤ 281474976710656) (h63 : (n : Int) ≤ 9223372036854775807) (hs : 0 < i.size) :
    (Builtin.append_ #[t, u] ty #[.slice none 0 0, .int k (n : Int)]).run P w =
      .ok (.slice (some ⟨w.heap.size, 0, none⟩) n (grownCap w n 0 e)) (w.drew.alloc (.cells (Builtin.zeroCells z.cells n ++ Builtin.zeroCells z.cells (grownCap w n 0 e - n)) e)) := by
  have hn : n ≠ 0 := by omega
  have hw : IntKind.i64.wrap (n : Int) = n := IntWalk.i64_in _ (by omega)
  have h63' : ¬ (9223372036854775807 < (n : Int)) := by omega
  have h48' : ¬ (281474976710656 < Builtin.nextslicecap n 0 * i.bytes) := by rw [nextslicecap_zero h0]; omega
  have h48i : ¬ ((281474976710656 : Int) < (n : Int) * (i.bytes : Int)) := by
    have : ((n * i.bytes : Nat) : Int) ≤ 281474976710656 := by omega
    rw [Int.natCast_mul] at this
    omega
  have hneg : ¬ ((n : Int) < 0) := by omega
  have hns : ¬ n * i.size = 0 := Nat.ne_of_gt (Nat.mul_pos h0 hs)
  simp [Builtin.append_, run_underlying ht, run_underlying hu, sizeOf, typeInfo, zeroValue, hi, hz, Builtin.lenOf, hn, hw, asInt, asIntOf, hneg, h48i, h63', h48', hns, Question.forced, run_firstCells_none, newRow, grownCap]

theorem wpList_append_zeros_nil {P : Program} {w : World} {ops : Array Oper} {rest : List Oper} {o : Oper} {a : Act} {Q : Exit → Act → World → Prop} (hgd : o.guard = none) (s x : Operand) (t u : TypeId)
    (ho : o.op = .call { callee := .builtin .append, args := #[s, x], argTypes := #[t, u] }) (e : TypeId) (k : IntKind) (i : TypeInfo) (z : Value) (ht : P.underlying t = some (.slice e)) (hu : P.underlying u = some (.int k)) (hi : P.info? e = some i) (hz : i.zero = some z)
    (n : Nat) (h0 : 0 < n) (h48 : n * i.bytes ≤ 281474976710656) (h63 : (n : Int) ≤ 9223372036854775807) (hsz : 0 < i.size) (hs : a.eval s = .slice none 0 0) (hx : a.eval x = .int k (n : Int))
    (h : wpList P ops Q rest (a.put o.dst (.slice (some ⟨w.heap.size, 0, none⟩) n (grownCap w n 0 e))) (w.drew.alloc (.cells (Builtin.zeroCells z.cells n ++ Builtin.zeroCells z.cells (grownCap w n 0 e - n)) e))) :
    wpList P ops Q (o :: rest) a w :=
  wpList_plain hgd fun _ hK => by
    unfold Oper.wp execOp
    simp only [ho, resolve, invoke, builtin, Sem.run_bind, Sem.run_pure, Result.andThen_ok, List.map_toArray, List.map_cons, List.map_nil, hs, hx, run_append_zeros_nil w t u o.type e k i z ht hu hi hz n h0 h48 h63 hsz]
    exact hK _ _ h

end Go.Proofs.Ytaohgefpnndjcaa
