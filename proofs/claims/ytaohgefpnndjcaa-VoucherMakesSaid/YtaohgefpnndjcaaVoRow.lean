/-
  VoucherRow: the walk.
-/
import Derived.Test.YtaohgefpnndjcaaVoP2
import Derived.Deep.RegionLaw
import Derived.Deep.CutRange
namespace Go.Proofs.Ytaohgefpnndjcaa
set_option linter.unusedVariables false
open Go.RowKit
def OwL (w : World) (A : Option Addr) (n c : Nat) (ls : List Lg) : Prop := Ow w 44 2 A n c (lgs ls)
theorem lgs_one (ls : List Lg) : ∀ u ∈ lgs ls, u.oneCell' = true := by
  intro u hu
  unfold lgs at hu
  rw [List.mem_flatMap] at hu
  obtain ⟨a, _, ha⟩ := hu
  simp only [List.mem_cons, List.not_mem_nil, or_false] at ha
  rcases ha with rfl | rfl <;> rfl
def zeroL : Value := .agg #[.string ⟨#[]⟩, .int .i64 0]
theorem lginfo : (Try.prog.info? 44).map (fun i => (i.zero, i.size, i.bytes)) = some (some zeroL, 2, 24) := by kernel_rfl
theorem step_appL {w : World} {ops : Array Oper} {o : Oper} {a : Act} {K : Act → World → Prop} {Q : Exit → Act → World → Prop} {E : Prop} (hgd : o.guard = none) (s x : Operand)
    (ho : o.op = .call { callee := .builtin .append, args := #[s, x], argTypes := #[23, 23] })
    {A : Option Addr} {n c : Nat} {xs : List Lg} (hs : a.eval s = .slice A n c) (hown : OwL w A n c xs)
    {S : Option Addr} {m d : Nat} {news : List Lg} (hx : a.eval x = .slice S m d) (hr : RdL w S m news) (hb : (n + m) * 24 ≤ 140737488355328)
    (h : ∀ A' c' w', OwL w' A' (n + m) c' (xs ++ news) → Mod (fp A) w w' → (A' = A ∨ A' = some ⟨w.heap.size, 0, none⟩) → K (a.put o.dst (.slice A' (n + m) c')) w') :
    if Region.wanted o (yielded ops a.tmps) = true then Oper.wp Try.prog o a w K Q else E := by
  obtain ⟨i0, hi, hz0, hz1, hz2⟩ := info_parts lginfo
  refine step_append_ow hgd s x 23 ho 44 i0 _ 2 24 Try.underlying23 hi hz0 hz1 hz2 rfl (by omega) A n c (lgs xs) hs hown S m d (lgs news) hx hr (lgs_one _) (by omega) (by omega) ?_
  intro A' c' w' h1
  rw [← lgs_append] at h1
  exact h A' c' w' h1
theorem step_copyL {w : World} {ops : Array Oper} {o : Oper} {a : Act} {K : Act → World → Prop} {Q : Exit → Act → World → Prop} {E : Prop} (hgd : o.guard = none) (s x : Operand)
    (ho : o.op = .call { callee := .builtin .append, args := #[s, x], argTypes := #[23, 23] })
    (hs : a.eval s = .slice none 0 0) {S : Option Addr} {m d : Nat} {news : List Lg} (hx : a.eval x = .slice S m d) (hr : RdL w S m news) (hb : m ≤ 1000)
    (h : ∀ A' c' w', OwL w' A' m c' news → Mod none_ w w' → Fresh w A' → K (a.put o.dst (.slice A' m c')) w') :
    if Region.wanted o (yielded ops a.tmps) = true then Oper.wp Try.prog o a w K Q else E := by
  refine step_appL hgd s x ho hs (show OwL w none 0 0 [] from Ow.nil _ _ _) hx hr (by omega) ?_
  intro A' c' w' h1 h2 h3
  rw [Nat.zero_add] at h1 ⊢
  refine h A' c' w' h1 (h2.mono ?_) ?_
  · rintro i ⟨a, h, _⟩; cases h
  · rcases h3 with rfl | rfl
    · intro a ha; cases ha
    · intro a ha; cases ha; exact Nat.le_refl _
theorem rdl_take {w : World} {A : Option Addr} {n k : Nat} {ls : List Lg} (h : RdL w A n ls) (hk : k ≤ n) : RdL w A k (ls.take k) := by
  have := Rd.take_ h hk
  have e : (lgs ls).take (k * 2) = lgs (ls.take k) := by
    have hl := h.len
    have h2 : lgs ls = lgs (ls.take k) ++ lgs (ls.drop k) := by rw [← lgs_append, List.take_append_drop]
    rw [h2]
    exact List.take_left' (by rw [lgs_length, List.length_take]; congr 1; omega)
  rwa [e] at this
theorem rdl_drop {w : World} {A : Option Addr} {n k c : Nat} {ls : List Lg} (h : RdL w A n ls) (hk : k ≤ n) (hc : n ≤ c) : RdL w (if c = k then A else A.map (·.add (k * 2))) (n - k) (ls.drop k) := by
  have := Rd.drop_ h hk hc
  have e : (lgs ls).drop (k * 2) = lgs (ls.drop k) := by
    have hl := h.len
    have h2 : lgs ls = lgs (ls.take k) ++ lgs (ls.drop k) := by rw [← lgs_append, List.take_append_drop]
    rw [h2]
    exact List.drop_left' (by rw [lgs_length, List.length_take]; congr 1; omega)
  rwa [e] at this
set_option maxRecDepth 100000 in
set_option maxHeartbeats 2000000 in
theorem voucherRow_walk (w : World) (A : Option Addr) (n c : Nat) (os : List Ac) (hr : RdA w A n os) (hok : ∀ o ∈ os, AcOk o) (L : Option Addr) (m d : Nat) (ls : List Lg) (hl : RdL w L m ls) (hmd : m ≤ d) (hlk : ∀ l ∈ ls, LgOk l) (at_ : Int) :
    Calls Try.prog 4 #[.slice A n c, .slice L m d, .int .i64 at_] w fun e w' => e = .returned (.bool true) ∧ Below w.heap.size w w' := by
  have k0 := Lib.hid (lives_ok w)
  have k1 := Lib.hid (fun W (h : RdA W A n os) => accts_ok W A n c os h hok)
  have k2 := Lib.hid (fun W => few_ok W L m d hmd)
  have hm8 : min m 8 ≤ m := by omega
  have hL8 := rdl_take hl hm8
  have hk8 : ∀ l ∈ ls.take (min m 8), LgOk l := fun l h => hlk l (List.mem_of_mem_take h)
  have hlt : 0 < min m 8 → ∀ k, fp L k → k < w.heap.size := fun h0 k hk => rdl_lt hl (by omega) k hk
  replace hr := Lib.hid hr
  replace hok := Lib.hid hok
  replace hl := Lib.hid hl
  replace hlk := Lib.hid hlk
  go_enter Try.func4, Try.ntmps4
  go_wp2_with fail
  refine k0.out.mono ?_
  rintro e w0 ⟨rfl, hm0⟩
  dsimp only
  replace hm0 := Lib.hid hm0
  go_wp2_with fail
  refine (k1.out _ (Rd.mod0 hr.out hm0.out)).mono ?_
  rintro e w1 ⟨p, b, q, C, rfl, hC, hR, oC, hm1, hp, hb, hpq, hbq, hq1⟩
  dsimp only
  have hmw1 := Lib.hid (hm0.out.trans hm1)
  have hs0 := hm0.out.size
  have hs1 := hm1.size
  clear hm1
  replace hC := Lib.hid hC
  replace hR := Lib.hid hR
  replace oC := Lib.hid oC
  go_wp2_with fail
  refine (k2.out _).mono ?_
  rintro e w2 ⟨rfl, rfl⟩
  dsimp only
  have hml : min m 8 ≤ 8 := by omega
  have hmd8 : min m 8 ≤ d := by omega
  generalize min m 8 = k8 at *
  have hlen8 := hL8.len
  generalize ls.take k8 = l8 at *
  obtain ⟨k, hk2, hke⟩ := umod at_ ((k8 : Int) + 1) (by omega) (by omega)
  replace hk2 : k ≤ k8 := by omega
  replace hke := Lib.hid hke
  replace hL8 := Lib.hid hL8
  replace hk8 := Lib.hid hk8
  replace hlt := Lib.hid hlt
  go_upto_region 7 with fail
  go_cut [9] from 25 to 32 (fun v W => v = .int .i64 (k : Int) ∧ W = w1)
  case first =>
    go_wp2_with fail
    go_meet
    exact ⟨by rw [hke.out], rfl⟩
  case rest =>
    obtain ⟨rfl, rfl⟩ := hcut
    have hW8 := Lib.hid (fun W (h : Mod none_ wc W) => (hL8.out.mod0 hmw1.out).mod0 h)
    have u0 : (0 : Int) ≤ (k : Int) := by omega
    have u1 : (k : Int) ≤ (k8 : Int) := by omega
    have u2 : (k8 : Int) ≤ (d : Int) := by omega
    have u3 : (k : Int) ≤ (d : Int) := by omega
    have hpm : l8.Perm (l8.drop k ++ l8.take k) := by
      have : (l8.take k ++ l8.drop k).Perm (l8.drop k ++ l8.take k) := List.perm_append_comm
      rwa [List.take_append_drop] at this
    have mp := make_perm hC.out.sorted hpm
    have oC1 := make_okc oC.out l8
    have km1 := fun W (hc : ChAt W p b C) (h : RdL W L k8 l8) (hA : 0 < k8 → ∀ k, fp L k → ¬ k = b) => make_ok W p b C L k8 d l8 hc oC.out h (by omega) hk8.out hA
    have km2 := fun W p' b' A2 c2 (hc : ChAt W p' b' C) (h : RdL W A2 (k8) (l8.drop k ++ l8.take k)) (hA : 0 < k8 → ∀ k, fp A2 k → ¬ k = b') => make_ok W p' b' C A2 (k8) c2 _ hc oC.out h (by omega) (fun l h => hk8.out l (hpm.mem_iff.2 h)) hA
    generalize makeR C l8 = r1 at *
    generalize makeR C (l8.drop k ++ l8.take k) = r2 at *
    obtain ⟨C1, e1⟩ := r1
    obtain ⟨C2, e2⟩ := r2
    dsimp only at mp oC1
    obtain ⟨mpe, rfl⟩ := mp
    have kcp := Lib.hid (fun W (h : ChAt W p b C) => copy_ok W p b C h)
    have ka := Lib.hid (fun W p b (h : ChAt W p b C1) => all_ok W p b C1 h (by have := oC1.2; omega) oC1.nm)
    have ks := Lib.hid (fun W A1 d1 A2 d2 (hA : RdA W A1 C1.length C1) (hB : RdA W A2 C1.length C1) => by
      have := same_ok W A1 A2 C1.length C1.length d1 d2 C1 C1 hA hB (by have := oC1.2; omega) (by have := oC1.2; omega)
      rw [show sameAc C1 C1 = true from decide_eq_true rfl] at this; exact this)
    have kn := Lib.hid (fun W => check_nil W L k8 d)
    replace km1 := Lib.hid km1
    replace km2 := Lib.hid km2
    replace oC1 := Lib.hid oC1
    replace hpm := Lib.hid hpm
    replace mpe := Lib.hid mpe
    go_upto_region 8 with fail
    go_region_law ((first
      | (refine step_copyL (by rfl) (.const (.slice none 0 0)) (.tmp 35) (by rfl) (by rfl) (by rfl) (rdl_drop (hW8.out _ (Mod.refl _ _).drew) hk2 hmd8) (by omega) ?_; intro A1 c1 w3 ho1 hm1 hf1; replace ho1 := Lib.hid ho1; replace hm1 := Lib.hid hm1; replace hf1 := Lib.hid hf1)
      | (refine step_appL (by rfl) (.tmp 36) (.tmp 39) (by rfl) (by rfl) ho1.out (by rfl) (rdl_take (hW8.out _ ((Mod.refl _ _).drew.trans hm1.out)) hk2) (by omega) ?_; intro A2 c2 w4 ho2 hm2 hA2; rw [show k8 - k + k = k8 by omega] at ho2 ⊢; replace ho2 := Lib.hid ho2; replace hm2 := Lib.hid hm2; replace hA2 := Lib.hid hA2)))
    all_goals
      generalize (if d = k then L else Option.map (fun x => x.add (k * 2)) L) = LL
      have hmA1 := Lib.hid ((hmw1.out.drew).trans hm1.out)
      have hf1w : Fresh wc A1 := hf1.out
      have hmw4 := Lib.hid (hmA1.out.then hm2.out (fun i hi hk => by obtain ⟨a, ha, rfl⟩ := hk; have := hf1w a ha; omega))
      have hmc4 : Mod none_ wc w4 := ((Mod.refl none_ wc).drew.trans hm1.out).then hm2.out (fun i hi hk => by obtain ⟨a, ha, rfl⟩ := hk; have := hf1w a ha; omega)
      have hf2 : Fresh wc A2 := Fresh.app hf1w ((Mod.refl none_ wc).drew.trans hm1.out).size hA2.out
      have hC4 := Lib.hid (hC.out.mod0 hmc4)
      have hbl := hC.out.2.1.lt
      have hpl := hC.out.1.lt
      have hs4 := hmc4.size
      have hL4 := Lib.hid (hW8.out _ hmc4)
      replace hmc4 := Lib.hid hmc4
      replace hf1w := Lib.hid hf1w
      replace hf2 := Lib.hid hf2
      go_wp2_with fail
      refine (kcp.out _ hC4.out).mono ?_
      rintro e w5 ⟨p', b', rfl, hc5, hm5, hp5, hb5⟩
      dsimp only
      have hC5 := Lib.hid (hC4.out.mod0 hm5)
      have hL5 := Lib.hid (hL4.out.mod0 hm5)
      have hO5 := Lib.hid (show RdL w5 A2 (k8) (l8.drop k ++ l8.take k) from Ow.rd (Ow.mod0 ho2.out hm5))
      have hO4 := Lib.hid (Ow.lt ho2.out)
      have hmw5 := Lib.hid (hmw4.out.trans hm5)
      have hs5 := hm5.size
      replace hc5 := Lib.hid hc5
      clear hm5
      go_wp2_with fail
      refine (km1.out _ hC5.out hL5.out (fun h0 k hk he => by have := hlt.out h0 k hk; omega)).mono ?_
      rintro e w6 ⟨rfl, hC6, hm6⟩
      dsimp only
      have hc6 := Lib.hid (hc5.out.mod hm6 (fun he => by have : p' = b := he; omega) (fun he => by have : b' = b := he; omega))
      have hO6 := Lib.hid (hO5.out.mod' hm6 (fun h0 i hi he => by obtain ⟨a, ha, rfl⟩ := hi; have h1 := hf2.out a ha; have h2 : a.block = b := he; omega))
      have hmw6 := Lib.hid (hmw5.out.then hm6 (fun i hi he => by have : i = b := he; omega))
      have hs6 := hm6.size
      replace hC6 := Lib.hid hC6
      clear hm6
      go_wp2_with fail
      have hsep : 0 < k8 → ∀ i, fp A2 i → ¬ i = b' := fun h0 i hi he => by
        have h9 := hO4.out i hi
        omega
      have hh := km2.out w6 p' b' A2 c2 hc6.out hO6.out hsep
      with_reducible refine hh.mono ?_
      rintro e w7 ⟨rfl, hc7, hm7⟩
      dsimp only
      have hC7 := Lib.hid (hC6.out.mod hm7 (fun he => by have : p = b' := he; omega) (fun he => by have : b = b' := he; omega))
      have hmw7 := Lib.hid (hmw6.out.then hm7 (fun i hi he => by have : i = b' := he; omega))
      replace hc7 := Lib.hid hc7
      clear hm7
      have hee : (e1 = 0 ∧ e2 = 0) ∨ ((e1 == 0) = false ∧ (e2 == 0) = false) := by
        by_cases h0 : e1 = 0
        · exact .inl ⟨h0, mpe.out.1 h0⟩
        · exact .inr ⟨by simpa using h0, by simpa using fun h => h0 (mpe.out.2 h)⟩
      rcases hee with ⟨rfl, rfl⟩ | ⟨h1, h2⟩
      all_goals
        go_wp2_with fail
        refine (ka.out _ p b hC7.out).mono ?_
        rintro e w8 ⟨A8, c8, rfl, ho8, hf8, hm8⟩
        dsimp only
        have hc8 := Lib.hid (hc7.out.mod0 hm8)
        have hr8 := Lib.hid (show RdA w8 A8 C1.length C1 from Ow.rd ho8)
        have hmw8 := Lib.hid (hmw7.out.trans hm8)
        clear ho8 hf8 hm8
        go_wp2_with fail
        refine (ka.out _ p' b' hc8.out).mono ?_
        rintro e w9 ⟨A9, c9, rfl, ho9, hf9, hm9⟩
        dsimp only
        have hr9 := Lib.hid (show RdA w9 A9 C1.length C1 from Ow.rd ho9)
        have hr89 := Lib.hid (show RdA w9 A8 C1.length C1 from Rd.mod0 hr8.out hm9)
        have hmw9 := Lib.hid (hmw8.out.trans hm9)
        clear ho9 hf9 hm9
        go_wp2_with fail
        refine (ks.out _ A8 c8 A9 c9 hr89.out hr9.out).mono ?_
        rintro e w10 ⟨rfl, kx, rfl⟩
        dsimp only
        go_wp2_with fail
        refine (kn.out _).mono ?_
        rintro e w11 ⟨rfl, rfl⟩
        dsimp only
        go_wp2_with fail
        go_ret
        exact ⟨rfl, (hmw9.out.drewN kx).below0⟩
end Go.Proofs.Ytaohgefpnndjcaa
