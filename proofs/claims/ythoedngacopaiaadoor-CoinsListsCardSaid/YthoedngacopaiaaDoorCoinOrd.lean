/-
  CoinsOrder: the walk. The table of powers of ten reads as the program's text lays it, and the variable of the library's search in place 0 is a number.
-/
import Derived.Test.YthoedngacopaiaaDoorCoinBck
import Derived.Test.YthoedngacopaiaaDoorMemG
import Derived.Test.YthoedngacopaiaaDoorOpen
import Derived.Deep.RegionLaw
namespace Go.Proofs.YthoedngacopaiaaDoor
set_option linter.unusedVariables false
open Go.RowKit
theorem step64 {w : World} {ops : Array Oper} {o : Oper} {a : Act} {K : Act → World → Prop} {Q : Exit → Act → World → Prop} {E : Prop} (hgd : o.guard = none) (s x : Operand)
    (ho : o.op = .call { callee := .builtin .append, args := #[s, x], argTypes := #[28, 28] })
    {A : Option Addr} {n c : Nat} {xs : List Int} (hs : a.eval s = .slice A n c) (hown : OwI w A n c xs)
    {S : Option Addr} {m d : Nat} {news : List Int} (hx : a.eval x = .slice S m d) (hr : RdI w S m news) (hb : (n + m) * 8 ≤ 140737488355328)
    (h : ∀ A' c' w', OwI w' A' (n + m) c' (xs ++ news) → Mod (fp A) w w' → (A' = A ∨ A' = some ⟨w.heap.size, 0, none⟩) → K (a.put o.dst (.slice A' (n + m) c')) w') :
    if Region.wanted o (yielded ops a.tmps) = true then Oper.wp Tryd.prog o a w K Q else E := by
  obtain ⟨i0, hi, hz0, hz1, hz2⟩ := info_parts i64info
  refine step_append_ow hgd s x 28 ho 2 i0 _ 1 8 Tryd.underlying28 hi hz0 hz1 hz2 rfl (by omega) A n c (ivs xs) hs hown S m d (ivs news) hx hr (ivs_one _) (by omega) (by omega) ?_
  intro A' c' w' h1
  rw [← ivs_append] at h1
  exact h A' c' w' h1
theorem rdi_take {A : Option Addr} {w : World} {n : Nat} {l : List Int} (h : RdI w A n l) {k : Nat} (hk : k ≤ n) : RdI w A k (l.take k) := by
  have := Rd.take_ h hk
  rw [Nat.mul_one] at this
  have e : ivs (l.take k) = (ivs l).take k := by simp [ivs, List.map_take]
  unfold RdI
  rw [e]
  exact this
theorem OwI.nil (w : World) : OwI w none 0 0 [] := Ow.nil _ _ _
theorem rdi_drop {A : Option Addr} {w : World} {n c : Nat} {l : List Int} (h : RdI w A n l) {k : Nat} (hk : k ≤ n) (hc : n ≤ c) : RdI w (if c = k then A else A.map (·.add k)) (n - k) (l.drop k) := by
  have := Rd.drop_ h hk hc
  rw [Nat.mul_one] at this
  have e : ivs (l.drop k) = (ivs l).drop k := by simp [ivs, List.map_drop]
  unfold RdI
  rw [e]
  exact this
set_option maxRecDepth 100000 in
set_option maxHeartbeats 4000000 in
theorem coinsOrder_walk (w : World) (A : Option Addr) (n c : Nat) (l : List Int) (cm : Came w 1 8 A n c (ivs l)) (hin : I64s l) (at_ : Int) (hG : Gw w) :
    Calls Tryd.prog 6 #[.slice A n c, .int .i64 at_] w fun e w' => e = .returned (.bool true) ∧ Below w.heap.size w w' := by
  obtain ⟨hr, hnc, hc63, hcb, hlt⟩ := cm
  have hrI : RdI w A n l := hr
  have hl := Lib.hid (lives_ok w hG)
  obtain ⟨m, hm⟩ : ∃ m, m = min n 100 := ⟨_, rfl⟩
  have e1 : (min (n : Int) 100).toNat = m := by omega
  have hmn : m ≤ n := by omega
  have hm1 : m ≤ 100 := by omega
  have hmc : m ≤ c := by omega
  have hml := rdi_take hrI hmn
  have hinm : I64s (l.take m) := fun x hx => hin x (List.mem_of_mem_take hx)
  generalize l.take m = xs at hml hinm
  have hxl := hml.len
  obtain ⟨k, hk, u1⟩ := umod at_ ((m : Int) + 1) (by omega) (by omega)
  have hkm : k ≤ m := by omega
  obtain ⟨q, rfl⟩ : ∃ q, m = k + q := ⟨m - k, by omega⟩
  rw [Int.natCast_add] at u1
  obtain ⟨d, rfl⟩ : ∃ d, c = k + d := ⟨c - k, by omega⟩
  have hqd : q ≤ d := by omega
  have hkq : (k : Int) ≤ (k : Int) + (q : Int) := by omega
  have hkd : (k : Int) ≤ (k : Int) + (d : Int) := by omega
  have hA1 : RdI w A k (xs.take k) := rdi_take hml (by omega)
  have hA2 := rdi_drop hml (k := k) (c := k + d) (by omega) (by omega)
  rw [show k + q - k = q by omega] at hA2
  have hi1 : I64s (xs.take k) := fun x hx => hinm x (List.mem_of_mem_take hx)
  have hi2 : I64s (xs.drop k) := fun x hx => hinm x (List.mem_of_mem_drop hx)
  have hs : isum xs = isum (xs.take k) + isum (xs.drop k) := by rw [← isum_append, List.take_append_drop]
  have hs2 : isum (xs.drop k ++ xs.take k) = isum xs := by rw [isum_append, hs]; omega
  have hi3 : I64s (xs.drop k ++ xs.take k) := fun x hx => by
    rcases List.mem_append.1 hx with h | h
    · exact hi2 x h
    · exact hi1 x h
  obtain ⟨t, qt, x1⟩ : ∃ t q, sumR (isum xs) = (t, q) := ⟨_, _, rfl⟩
  obtain ⟨a, qa, x2⟩ : ∃ t q, sumR (isum (xs.take k)) = (t, q) := ⟨_, _, rfl⟩
  obtain ⟨b, qb, x3⟩ : ∃ t q, sumR (isum (xs.drop k)) = (t, q) := ⟨_, _, rfl⟩
  have t1 : Hid (∀ W (e : Ending) (w' : World), SumPost (sumR (isum xs)) W e w' → e = .returned (.tuple #[.int .i64 t, .int .i64 (qt : Int)]) ∧ W = w') := Lib.hid fun W e w' h => h.of x1
  have t2 : Hid (∀ W (e : Ending) (w' : World), SumPost (sumR (isum (xs.drop k ++ xs.take k))) W e w' → e = .returned (.tuple #[.int .i64 t, .int .i64 (qt : Int)]) ∧ W = w') := Lib.hid fun W e w' h => by rw [hs2] at h; exact h.of x1
  have t3 : Hid (∀ W (e : Ending) (w' : World), SumPost (sumR (isum (xs.take k))) W e w' → e = .returned (.tuple #[.int .i64 a, .int .i64 (qa : Int)]) ∧ W = w') := Lib.hid fun W e w' h => h.of x2
  have t4 : Hid (∀ W (e : Ending) (w' : World), SumPost (sumR (isum (xs.drop k))) W e w' → e = .returned (.tuple #[.int .i64 b, .int .i64 (qb : Int)]) ∧ W = w') := Lib.hid fun W e w' h => h.of x3
  have hab : qa = 0 → qb = 0 → I64 a ∧ I64 b ∧ sumR (a + b) = (t, qt) := by
    intro h1 h2
    have f : ∀ {x v : Int} {q : Nat}, sumR x = (v, q) → q = 0 → v = x ∧ I64 v := by
      intro x v q h hq
      unfold sumR at h
      cases hi : inI x with
      | true => rw [hi, if_pos rfl] at h; injection h with h _; subst h; exact ⟨rfl, inI_yes.1 hi⟩
      | false => rw [hi, if_neg (by decide)] at h; injection h with _ h; omega
    obtain ⟨ea, ia⟩ := f x2 h1
    obtain ⟨eb, ib⟩ := f x3 h2
    exact ⟨ia, ib, by rw [ea, eb, ← hs, x1]⟩
  clear hr hrI x1 x2 x3 hs hs2 hk hm
  replace hlt := Lib.hid hlt
  replace hG := Lib.hid hG
  replace hml := Lib.hid hml
  replace hinm := Lib.hid hinm
  replace hin := Lib.hid hin
  replace hA1 := Lib.hid hA1
  replace hA2 := Lib.hid hA2
  replace hi1 := Lib.hid hi1
  replace hi2 := Lib.hid hi2
  replace hi3 := Lib.hid hi3
  replace hab := Lib.hid hab
  replace hxl := Lib.hid hxl
  go_enter Tryd.func6, Tryd.ntmps6
  go_wp2_with fail
  refine hl.out.mono ?_
  rintro e w1 ⟨rfl, hm1'⟩
  dsimp only
  have hM1 := Lib.hid (Rd.mod0 hml.out hm1')
  have hM2 := Lib.hid (Rd.mod0 hA1.out hm1')
  have hM3 := Lib.hid (Rd.mod0 hA2.out hm1')
  replace hm1' := Lib.hid hm1'
  go_wp2_with fail
  refine (total_ok w1 A (k + q) (k + d) xs hM1.out (by omega) hinm.out).mono ?_
  rintro e w2 hpp
  obtain ⟨rfl, rfl⟩ := t1.out _ _ _ hpp
  clear hpp
  dsimp only
  have hcase : ∃ A2, (d = 0 ∧ A2 = A ∨ ¬ d = 0 ∧ A2 = A.map (·.add k)) ∧ RdI w1 A2 q (xs.drop k) := by
    have h := hM3.out
    by_cases h0 : d = 0
    · rw [if_pos (by omega)] at h; exact ⟨A, .inl ⟨h0, rfl⟩, h⟩
    · rw [if_neg (by omega)] at h; exact ⟨_, .inr ⟨h0, rfl⟩, h⟩
  obtain ⟨A2, hA2', hM4⟩ := hcase
  have hlq := hM4.len
  replace hM4 := Lib.hid hM4
  replace hlq := Lib.hid hlq
  rcases hA2' with ⟨rfl, rfl⟩ | ⟨hd0, rfl⟩
  all_goals
    go_wp2_with fail
    go_region_law (first
      | ((refine step64 (by rfl) (.const (.slice none 0 0)) (.tmp 39) (by rfl) (by rfl) (OwI.nil _) (by rfl) (Rd.mod0 hM4.out (Mod.refl none_ w1).drew) (by omega) ?_); intro A5 c5 w5 hown5 hmod5 hA5; rw [Nat.zero_add, List.nil_append] at hown5; rw [Nat.zero_add]; replace hown5 := Lib.hid hown5; replace hmod5 := Lib.hid hmod5.nil_own; replace hA5 := Lib.hid hA5)
      | ((refine step64 (by rfl) (.tmp 40) (.tmp 43) (by rfl) (by rfl) hown5.out (by rfl) (Rd.mod0 (Rd.mod0 hM2.out (Mod.refl none_ w1).drew) hmod5.out) (by omega) ?_); intro A6 c6 w6 hown6 hmod6 hA6; replace hown6 := Lib.hid hown6; replace hmod6 := Lib.hid hmod6; replace hA6 := Lib.hid hA6)
      | (go_simp; go_at_call 16; (refine (total_ok w6 A6 _ c6 _ hown6.out.rd (by omega) hi3.out).mono ?_); rintro e w7 hpp; obtain ⟨rfl, rfl⟩ := t2.out _ _ _ hpp; clear hpp; dsimp only))
    have hf5 : Fresh w1.drew A5 := by
      intro a ha
      rcases hA5.out with h | h
      · rw [h] at ha; cases ha
      · rw [h] at ha; cases ha; exact Nat.le_refl _
    have hm6 : Mod none_ w1 w6 := ((Mod.refl none_ w1).drew).trans (hmod5.out.app hf5 hmod6.out)
    have r6 := Lib.hid (Rd.mod0 hM2.out hm6)
    have r7 := Lib.hid (Rd.mod0 hM4.out hm6)
    clear hf5
    replace hm6 := Lib.hid hm6
    go_wp2_with fail
    refine (total_ok w6 _ k _ (xs.take k) r6.out (by omega) hi1.out).mono ?_
    rintro e w8 hpp
    obtain ⟨rfl, rfl⟩ := t3.out _ _ _ hpp
    clear hpp
    dsimp only
    go_wp2_with fail
    refine (total_ok w6 _ q _ (xs.drop k) r7.out (by omega) hi2.out).mono ?_
    rintro e w8 hpp
    obtain ⟨rfl, rfl⟩ := t4.out _ _ _ hpp
    clear hpp
    dsimp only
    by_cases ha0 : qa = 0
    · have ha1 : ((qa : Int) != 0) = false := by simp; omega
      by_cases hb0 : qb = 0
      · have hb1 : ((qb : Int) != 0) = false := by simp; omega
        obtain ⟨ia, ib, es⟩ := hab.out ha0 hb0
        have t5 : Hid (∀ W (e : Ending) (w' : World), SumPost (sumR (a + b)) W e w' → e = .returned (.tuple #[.int .i64 t, .int .i64 (qt : Int)]) ∧ W = w') := Lib.hid fun W e w' h => h.of es
        clear es
        replace ia := Lib.hid ia
        replace ib := Lib.hid ib
        replace ha0 := Lib.hid ha0
        replace hb0 := Lib.hid hb0
        go_wp2_with fail
        refine (add_ok w6 a b ia.out ib.out).mono ?_
        rintro e w8 hpp
        obtain ⟨rfl, rfl⟩ := t5.out _ _ _ hpp
        clear hpp
        dsimp only
        go_wp2_with fail
        go_ret
        exact ⟨rfl, (hm1'.out.trans hm6.out).below0⟩
      · have hb1 : ((qb : Int) != 0) = true := by simp; omega
        replace ha0 := Lib.hid ha0
        replace hb0 := Lib.hid hb0
        go_wp2_with fail
        go_ret
        exact ⟨rfl, (hm1'.out.trans hm6.out).below0⟩
    · have ha1 : ((qa : Int) != 0) = true := by simp; omega
      replace ha0 := Lib.hid ha0
      go_wp2_with fail
      go_ret
      exact ⟨rfl, (hm1'.out.trans hm6.out).below0⟩
end Go.Proofs.YthoedngacopaiaaDoor
