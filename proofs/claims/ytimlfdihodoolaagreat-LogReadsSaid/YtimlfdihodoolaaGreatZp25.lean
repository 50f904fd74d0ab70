import Derived.Test.YtimlfdihodoolaaGreatZp18
import Derived.Test.YtimlfdihodoolaaGreatZp10
import Derived.Test.YtimlfdihodoolaaGreatZp23
import Derived.Test.YtimlfdihodoolaaGreatZp24
/-
  The reference's log.Read: it tells what log.Read tells. No condition.
-/
namespace Go.Proofs.YtimlfdihodoolaaGreat
set_option linter.unusedVariables false
set_option linter.unusedSimpArgs false
open Go.RowKit
def SPost2 (w : World) (g B : Nat) (r : Int × Nat × List UInt8) (en : Ending) (w' : World) : Prop :=
  en = .returned (.int .i64 r.1) ∧ Rdr2 w' g B r.2.2 r.2.1 ∧ Mod (only g) w w'
set_option maxRecDepth 100000 in
theorem small15_r {w : World} {g B e : Nat} {l : List UInt8} {most : Int} {r : Int × RS} (h1 : qg 0 most (e, l) = r) (h : Rdr2 w g B l e) : Calls Tryz.prog 22 #[.pointer (some ⟨g, 0, none⟩), .int .i64 most] w (SPost2 w g B r) := by
  have k := Lib.hid (range_r2 h1 h)
  clear h h1
  go_enter Tryz.func22, Tryz.ntmps22
  go_wp2_with fail
  refine k.out.mono ?_
  rintro en w1 ⟨rfl, hR, hm⟩
  dsimp only
  replace hR := Lib.hid hR
  replace hm := Lib.hid hm
  go_wp2_with fail
  go_ret
  exact ⟨rfl, hR.out, hm.out⟩
theorem appP2 {w : World} {ops : Array Oper} {rest : List Oper} {o : Oper} {a : Act} {Q : Exit → Act → World → Prop} (hgd : o.guard = none) (s x : Operand)
    (ho : o.op = .call { callee := .builtin .append, args := #[s, x], argTypes := #[31, 31] })
    {A : Option Addr} {n c : Nat} {xs : List Is} (hs : a.eval s = .slice A n c) (hown : OwP w A n c xs)
    {S : Option Addr} {m d : Nat} {news : List Is} (hx : a.eval x = .slice S m d) (hr : RdP w S m news) (hb : (n + m) * 16 ≤ 140737488355328)
    (h : ∀ A' c' w', OwP w' A' (n + m) c' (xs ++ news) → Mod (fp A) w w' → (A' = A ∨ A' = some ⟨w.heap.size, 0, none⟩) → wpList Tryz.prog ops Q rest (a.put o.dst (.slice A' (n + m) c')) w') : wpList Tryz.prog ops Q (o :: rest) a w := by
  obtain ⟨i0, hi, hz0, hz1, hz2⟩ := info_parts isinfo
  refine wpList_append_ow hgd s x 31 ho 25 i0 _ 2 16 Tryz.underlying31 hi hz0 hz1 hz2 rfl (by omega) A n c (iss xs) hs hown S m d (iss news) hx hr (iss_one _) (by omega) (by omega) ?_
  intro A' c' w' h1
  rw [← iss_append] at h1
  exact h A' c' w' h1
/- what is told -/
theorem rec_err {b : List UInt8} {x : Rc} {f e : Nat} {l : List UInt8} (h : rdR (0, b) = ((x, f), e, l)) (hh : f ≠ 0 ∨ e ≠ 0 ∨ l ≠ [] ∨ rightR x = false) : rdRec b = (rc0, 3) := by
  unfold rdRec
  rw [h]
  dsimp only
  rw [if_pos]
  rcases hh with h1 | h1 | h1 | h1
  · exact .inl h1
  · exact .inr (.inl (fun hd => h1 (dn_zero.1 hd).1))
  · exact .inr (.inl (fun hd => h1 (dn_zero.1 hd).2))
  · exact .inr (.inr h1)
theorem rec_good {b : List UInt8} {x : Rc} (h : rdR (0, b) = ((x, 0), 0, [])) (hr : rightR x = true) : rdRec b = (x, 0) := by
  unfold rdRec
  rw [h]
  dsimp only
  rw [if_neg (by rw [hr]; simp [dn])]
theorem rec_same {b : List UInt8} {x : Rc} (h : rdR (0, b) = ((x, 0), 0, [])) : b = recB x := by
  have := (rdR_exact _ _ _ h).1
  simpa using this
theorem od_facts2 {o : Od} (h : o = od0 ∨ okOd o) : in64 o.sum ∧ (∀ l ∈ o.legs, in64 l.x) ∧ (txt o.acct).size ≤ maxLen ∧ (txt o.peer).size ≤ maxLen := by
  rcases h with rfl | h
  · exact ⟨⟨by decide, by decide⟩, (fun l hl => by cases hl), by decide, by decide⟩
  · obtain ⟨_, _, _, h4, h5, h6, _, h8, _⟩ := h
    refine ⟨h6, fun l hl => (h8 l hl).2, txt_small ?_, txt_small ?_⟩
    · omega
    · omega
theorem rdR_head {b : List UInt8} {rep num bal s3 by_ : Int} {e1 e2 e3 e4 e5 : Nat} {l1 l2 l3 l4 l5 : List UInt8} (h1 : qg 0 6 (0, b) = (rep, e1, l1)) (h2 : qg 0 10000 (e1, l1) = (num, e2, l2)) (h3 : qg 0 1000000 (e2, l2) = (bal, e3, l3)) (h4 : qg 0 3 (e3, l3) = (s3, e4, l4)) (h5 : qg 0 1000000 (e4, l4) = (by_, e5, l5)) :
    rdR (0, b) = if s3 = 0 then ((⟨⟨rep, num⟩, bal, s3, by_, en0⟩, 0), e5, l5) else bd rdEn (fun e => pu (⟨⟨rep, num⟩, bal, s3, by_, e.1⟩, e.2)) (e5, l5) := by
  have h0 : rdIs (0, b) = (⟨rep, num⟩, e2, l2) := by unfold rdIs; rw [bd_of h1, bd_of h2] <;> rfl
  unfold rdR
  rw [bd_of h0, bd_of h3, bd_of h4, bd_of h5]
  split <;> rfl
def AnyB (w : World) (en : Ending) (w' : World) : Prop := ∃ (A : Option Addr) (n c : Nat) (f : Int), en = .returned (.tuple #[.slice A n c, .int .i64 f]) ∧ Mod none_ w w'
theorem BPost.any {w w' : World} {ok : Bool} {l : List UInt8} {e : Ending} (h : BPost w ok l e w') : AnyB w e w' := by
  rcases h with ⟨_, A, c, rfl, _, _, hm⟩ | ⟨_, rfl, hm⟩
  · exact ⟨A, _, c, 0, rfl, hm⟩
  · exact ⟨none, 0, 0, 1, rfl, hm⟩

set_option maxRecDepth 100000 in
set_option maxHeartbeats 8000000 in
theorem read15_0 (w : World) (A : Option Addr) (n c : Nat) (b : List UInt8) (h : RdB w A n b) (hnc : n ≤ c) (hcm : c ≤ 9223372036854775807) (rep num bal s3 by_ : Int) (e1 e2 e3 e4 e5 : Nat) (l1 l2 l3 l4 l5 : List UInt8) (h1 : qg 0 6 (0, b) = (rep, e1, l1)) (h2 : qg 0 10000 (e1, l1) = (num, e2, l2)) (h3 : qg 0 1000000 (e2, l2) = (bal, e3, l3)) (h4 : qg 0 3 (e3, l3) = (s3, e4, l4)) (h5 : qg 0 1000000 (e4, l4) = (by_, e5, l5)) (hs : s3 = 0) : Calls Tryz.prog 6 #[.slice A n c] w (RcPost w (rdRec b)) := by
  have hrd : Hid (rdR (0, b) = ((⟨⟨rep, num⟩, bal, s3, by_, en0⟩, 0), e5, l5)) := Lib.hid (by rw [rdR_head h1 h2 h3 h4 h5, if_pos hs])
  have hbd : Hid ((⟨none, 0, 0⟩ : SV).n ≤ 140737488355328 ∧ (⟨none, 0, 0⟩ : SV).n ≤ 140737488355328 ∧ (∀ l ∈ en0.o.legs, (txt l.n).size ≤ maxLen) ∧ (txt en0.o.acct).size ≤ maxLen ∧ (txt en0.o.peer).size ≤ maxLen ∧ numsE en0) := Lib.hid ⟨by decide, by decide, (fun l hl => by cases hl), by decide, by decide, ⟨by decide, by decide⟩, fun l hl => by cases hl⟩
  obtain ⟨B, hB, hBA⟩ : ∃ B, B ≤ w.heap.size ∧ (0 < n → ∀ k, fp A k → k = B) := by
    rcases Nat.eq_zero_or_pos n with h0 | h0
    · exact ⟨w.heap.size, Nat.le_refl _, fun hh => absurd hh (by omega)⟩
    · cases A with
      | none => exact ⟨w.heap.size, Nat.le_refl _, fun _ k hk => by obtain ⟨a, ha, _⟩ := hk; cases ha⟩
      | some a => exact ⟨a.block, Nat.le_of_lt (Rd.blt (size := 1) (xs := bvs b) h h0 (by omega) _ ⟨a, rfl, rfl⟩), fun _ k hk => by obtain ⟨a', ha, hk⟩ := hk; cases ha; exact hk.symm⟩
  have hb0 := Blk.new w 37 #[.int .i64 0, .int .i64 0, .int .i64 0, .int .i64 0, .int .i64 0, .int .i64 0, .int .i64 0, .int .i64 0, .string ⟨#[]⟩, .string ⟨#[]⟩, .int .i64 0, .slice none 0 0, .int .i64 0, .int .i64 0, .string ⟨#[]⟩, .bool false, .slice none 0 0]
  have hm0 := (Mod.refl none_ w).alloc (.cells #[.int .i64 0, .int .i64 0, .int .i64 0, .int .i64 0, .int .i64 0, .int .i64 0, .int .i64 0, .int .i64 0, .string ⟨#[]⟩, .string ⟨#[]⟩, .int .i64 0, .slice none 0 0, .int .i64 0, .int .i64 0, .string ⟨#[]⟩, .bool false, .slice none 0 0] 37)
  have hs0 : (w.alloc (.cells #[.int .i64 0, .int .i64 0, .int .i64 0, .int .i64 0, .int .i64 0, .int .i64 0, .int .i64 0, .int .i64 0, .string ⟨#[]⟩, .string ⟨#[]⟩, .int .i64 0, .slice none 0 0, .int .i64 0, .int .i64 0, .string ⟨#[]⟩, .bool false, .slice none 0 0] 37)).heap.size = w.heap.size + 1 := by simp
  have hR0 : Rdr2 ((w.alloc (.cells #[.int .i64 0, .int .i64 0, .int .i64 0, .int .i64 0, .int .i64 0, .int .i64 0, .int .i64 0, .int .i64 0, .string ⟨#[]⟩, .string ⟨#[]⟩, .int .i64 0, .slice none 0 0, .int .i64 0, .int .i64 0, .string ⟨#[]⟩, .bool false, .slice none 0 0] 37)).alloc (.cells #[.slice A n c, .int .i64 0] 63)) (w.heap.size + 1) B b 0 :=
    ⟨A, n, c, (by have := Blk.new (w.alloc (.cells #[.int .i64 0, .int .i64 0, .int .i64 0, .int .i64 0, .int .i64 0, .int .i64 0, .int .i64 0, .int .i64 0, .string ⟨#[]⟩, .string ⟨#[]⟩, .int .i64 0, .slice none 0 0, .int .i64 0, .int .i64 0, .string ⟨#[]⟩, .bool false, .slice none 0 0] 37)) 63 #[.slice A n c, .int .i64 0]; rw [hs0] at this; exact this), Rd.mod0 h (hm0.alloc _), hnc, hcm, hBA, by omega⟩
  have hbr0 := hb0.mod ((Mod.refl none_ _).alloc (.cells #[.slice A n c, .int .i64 0] 63)) (fun h => h)
  have hM0 := hm0.alloc (.cells #[.slice A n c, .int .i64 0] 63)
  replace h := Lib.hid h
  clear hs0 hb0 hm0 hnc hBA
  have hfL : Hid (∀ a, (none : Option Addr) = some a → w.heap.size < a.block) := Lib.hid (fun a ha => by cases ha)
  subst hs
  replace h1 := Lib.hid h1
  replace h2 := Lib.hid h2
  replace h3 := Lib.hid h3
  replace h4 := Lib.hid h4
  replace h5 := Lib.hid h5
  replace hR0 := Lib.hid hR0
  replace hbr0 := Lib.hid hbr0
  replace hM0 := Lib.hid hM0
  go_enter Tryz.func6, Tryz.ntmps6
  go_wp2_with fail
  refine (small15_r h1.out hR0.out).mono ?_; rintro en w1 ⟨rfl, hR1, hm⟩; dsimp only at hR1 ⊢
  have hbr1 := Lib.hid (hbr0.out.mod hm (fun hh => by have : w.heap.size = w.heap.size + 1 := hh; omega)); have hM1 := Lib.hid (hM0.out.in_new (by omega) hm); clear hm hR0 hbr0 hM0
  replace hR1 := Lib.hid hR1
  go_wp2_with fail
  refine (small15_r h2.out hR1.out).mono ?_; rintro en w2 ⟨rfl, hR2, hm⟩; dsimp only at hR2 ⊢
  have hbr2 := Lib.hid (hbr1.out.mod hm (fun hh => by have : w.heap.size = w.heap.size + 1 := hh; omega)); have hM2 := Lib.hid (hM1.out.in_new (by omega) hm); clear hm hR1 hbr1 hM1
  replace hR2 := Lib.hid hR2
  go_wp2_with fail
  refine (small15_r h3.out hR2.out).mono ?_; rintro en w3 ⟨rfl, hR3, hm⟩; dsimp only at hR3 ⊢
  have hbr3 := Lib.hid (hbr2.out.mod hm (fun hh => by have : w.heap.size = w.heap.size + 1 := hh; omega)); have hM3 := Lib.hid (hM2.out.in_new (by omega) hm); clear hm hR2 hbr2 hM2
  replace hR3 := Lib.hid hR3
  go_wp2_with fail
  refine (small15_r h4.out hR3.out).mono ?_; rintro en w4 ⟨rfl, hR4, hm⟩; dsimp only at hR4 ⊢
  have hbr4 := Lib.hid (hbr3.out.mod hm (fun hh => by have : w.heap.size = w.heap.size + 1 := hh; omega)); have hM4 := Lib.hid (hM3.out.in_new (by omega) hm); clear hm hR3 hbr3 hM3
  replace hR4 := Lib.hid hR4
  go_wp2_with fail
  refine (small15_r h5.out hR4.out).mono ?_; rintro en w5 ⟨rfl, hR5, hm⟩; dsimp only at hR5 ⊢
  have hbr5 := Lib.hid (hbr4.out.mod hm (fun hh => by have : w.heap.size = w.heap.size + 1 := hh; omega)); have hM5 := Lib.hid (hM4.out.in_new (by omega) hm); clear hm hR4 hbr4 hM4
  replace hR5 := Lib.hid hR5
  have hgl := hR5.out.lt
  have st : FillS2 w 37 #[.int .i64 0, .int .i64 0, .int .i64 0, .int .i64 0, .int .i64 0, .int .i64 0, .int .i64 0, .int .i64 0, .string ⟨#[]⟩, .string ⟨#[]⟩, .int .i64 0, .slice none 0 0, .int .i64 0, .int .i64 0, .string ⟨#[]⟩, .bool false, .slice none 0 0] (w.heap.size + 1) B w5.heap.size (w5.alloc (.cells #[.int .i64 rep, .int .i64 num, .int .i64 bal, .int .i64 0, .int .i64 by_, .int .i64 0, .int .i64 0, .int .i64 0, .string ⟨#[]⟩, .string ⟨#[]⟩, .int .i64 0, .slice none 0 0, .int .i64 0, .int .i64 0, .string ⟨#[]⟩, .bool false, .slice none 0 0] 37)) #[.int .i64 rep, .int .i64 num, .int .i64 bal, .int .i64 0, .int .i64 by_, .int .i64 0, .int .i64 0, .int .i64 0, .string ⟨#[]⟩, .string ⟨#[]⟩, .int .i64 0, .slice none 0 0, .int .i64 0, .int .i64 0, .string ⟨#[]⟩, .bool false, .slice none 0 0] e5 l5 :=
    ⟨hR5.out.mod0 ((Mod.refl none_ w5).alloc _), hbr5.out.alloc _, Blk.new w5 _ _, hM5.out.alloc _, by omega, by omega, by omega, hB⟩
  clear hR5 hbr5 hM5
  generalize hg : w.heap.size + 1 = g at st hgl
  generalize hq : w5.heap.size = q at st hgl
  have hgq : ¬ g = q := by omega
  have hqg : ¬ q = g := by omega
  replace st := Lib.hid st
  replace hg := Lib.hid hg
  go_wp2_with fail
  replace hq := Lib.hid hq
  have hE : Hid (∀ W', Mod none_ (w5.alloc (.cells #[.int .i64 rep, .int .i64 num, .int .i64 bal, .int .i64 0, .int .i64 by_, .int .i64 0, .int .i64 0, .int .i64 0, .string ⟨#[]⟩, .string ⟨#[]⟩, .int .i64 0, .slice none 0 0, .int .i64 0, .int .i64 0, .string ⟨#[]⟩, .bool false, .slice none 0 0] 37)) W' → EnM W' en0 ⟨none, 0, 0⟩ ⟨none, 0, 0⟩) := Lib.hid (fun W' _ => en0_mem W')
  have kB : Hid (Calls Tryz.prog 25 #[.agg #[.int .i64 rep, .int .i64 num, .int .i64 bal, .int .i64 0, .int .i64 by_, .int .i64 0, .int .i64 0, .int .i64 0, .string ⟨#[]⟩, .string ⟨#[]⟩, .int .i64 0, .slice none 0 0, .int .i64 0, .int .i64 0, .string ⟨#[]⟩, .bool false, .slice none 0 0]] (w5.alloc (.cells #[.int .i64 rep, .int .i64 num, .int .i64 bal, .int .i64 0, .int .i64 by_, .int .i64 0, .int .i64 0, .int .i64 0, .string ⟨#[]⟩, .string ⟨#[]⟩, .int .i64 0, .slice none 0 0, .int .i64 0, .int .i64 0, .string ⟨#[]⟩, .bool false, .slice none 0 0] 37)) (BPost (w5.alloc (.cells #[.int .i64 rep, .int .i64 num, .int .i64 bal, .int .i64 0, .int .i64 by_, .int .i64 0, .int .i64 0, .int .i64 0, .string ⟨#[]⟩, .string ⟨#[]⟩, .int .i64 0, .slice none 0 0, .int .i64 0, .int .i64 0, .string ⟨#[]⟩, .bool false, .slice none 0 0] 37)) (rightR ⟨⟨rep, num⟩, bal, 0, by_, en0⟩) (recB ⟨⟨rep, num⟩, bal, 0, by_, en0⟩))) := Lib.hid (r15bytes_ok (w5.alloc (.cells #[.int .i64 rep, .int .i64 num, .int .i64 bal, .int .i64 0, .int .i64 by_, .int .i64 0, .int .i64 0, .int .i64 0, .string ⟨#[]⟩, .string ⟨#[]⟩, .int .i64 0, .slice none 0 0, .int .i64 0, .int .i64 0, .string ⟨#[]⟩, .bool false, .slice none 0 0] 37)) ⟨⟨rep, num⟩, bal, 0, by_, en0⟩ ⟨none, 0, 0⟩ ⟨none, 0, 0⟩ (hE.out _ (Mod.refl _ _)) hbd.out.1 hbd.out.2.1 hbd.out.2.2.1 hbd.out.2.2.2.1 hbd.out.2.2.2.2.1 hbd.out.2.2.2.2.2)
  obtain ⟨rA, rn_, rc_, hbR, hrR, _, _, _, _⟩ := st.out.rd
  have hlR := hrR.len
  subst hlR
  have hrB := Lib.hid (Rd.mod0 h.out st.out.mod)
  replace hbR := Lib.hid hbR
  replace hrR := Lib.hid hrR
  by_cases he : e5 = 0
  · by_cases hl : l5.length = 0
    · have hl1 : l5 = [] := List.length_eq_zero_iff.1 hl
      have hrd0 := hrd.out
      rw [he, hl1] at hrd0
      have hbe := rec_same hrd0
      cases hr : rightR ⟨⟨rep, num⟩, bal, 0, by_, en0⟩ with
      | false =>
        have hf := Lib.hid (rec_err hrd0 (.inr (.inr (.inr hr))))
        rw [hr] at kB
        clear hrd0 hbe hr
        go_wp2_with (refine wpList_load_row rfl 37 (.tmp 10) rfl q rfl _ _ _ _ st.out.var Tryz.underlying37 rfl record_size ?_)
        with_reducible refine kB.out.mono ?_
        rintro en wb hpost
        rcases hpost with ⟨hh, _⟩ | ⟨_, rfl, hm⟩
        · cases hh
        dsimp only
        have g0 := (hbR.out.mod hm (fun hh => hh)).cell_ (i := 0) rfl
        have g1 := (hbR.out.mod hm (fun hh => hh)).cell_ (i := 1) rfl
        replace st := Lib.hid (st.out.mod0 hm)
        clear hm kB
        go_wp2_with (refine wpList_store_blk rfl 37 (.tmp 2) (.tmp 125) rfl w.heap.size 0 _ rfl rfl st.out.res (by simp) record_size (by rfl) #[.int .i64 0, .int .i64 0, .int .i64 0, .int .i64 0, .int .i64 0, .int .i64 0, .int .i64 0, .int .i64 0, .string ⟨#[]⟩, .string ⟨#[]⟩, .int .i64 0, .slice none 0 0, .int .i64 0, .int .i64 0, .string ⟨#[]⟩, .bool false, .slice none 0 0] rfl ?_; intro w14 hb14 hm14; replace hb14 := Lib.hid hb14; replace hm14 := Lib.hid hm14)
        refine ret_row_tmp rfl w.heap.size rfl hb14.out Tryz.underlying37 rfl record_size (.int .i64 3) rfl rfl ?_
        exact RcPost.zero hf.out rfl ((st.out.mod).in_new (Nat.le_refl _) hm14.out)
      | true =>
        have hf := Lib.hid (rec_good hrd0 hr)
        rw [hr] at kB
        clear hr
        go_wp2_with (refine wpList_load_row rfl 37 (.tmp 10) rfl q rfl _ _ _ _ st.out.var Tryz.underlying37 rfl record_size ?_)
        with_reducible refine kB.out.mono ?_
        rintro en wb hpost
        rcases hpost with ⟨_, Ab, cb, rfl, hob, hfb, hm⟩ | ⟨hh, _⟩
        rotate_left
        · cases hh
        dsimp only
        have g0 := (hbR.out.mod hm (fun hh => hh)).cell_ (i := 0) rfl
        have g1 := (hbR.out.mod hm (fun hh => hh)).cell_ (i := 1) rfl
        have cv1 := conv_bytes0 Ab _ cb _ wb hob.rd
        have cv2 := conv_bytes0 A _ c _ wb (Rd.mod0 hrB.out hm)
        rw [hbe] at cv2
        replace st := Lib.hid (st.out.mod0 hm)
        have hE2 := Lib.hid (fun W' (hh : Mod none_ wb W') => hE.out W' (hm.trans hh))
        clear hm kB hob hfb hrd0
        replace hbe := Lib.hid hbe
        go_wp2_with (first | (refine wpList_load_row rfl 37 (.tmp 10) rfl q rfl _ _ _ _ st.out.var Tryz.underlying37 rfl record_size ?_) | (refine wpList_store_blk rfl 37 (.tmp 2) (.tmp 126) rfl w.heap.size 0 _ rfl rfl st.out.res (by simp) record_size (by rfl) #[.int .i64 rep, .int .i64 num, .int .i64 bal, .int .i64 0, .int .i64 by_, .int .i64 0, .int .i64 0, .int .i64 0, .string ⟨#[]⟩, .string ⟨#[]⟩, .int .i64 0, .slice none 0 0, .int .i64 0, .int .i64 0, .string ⟨#[]⟩, .bool false, .slice none 0 0] rfl ?_; intro w14 hb14 hm14; replace hb14 := Lib.hid hb14; replace hm14 := Lib.hid hm14))
        refine ret_row_tmp rfl w.heap.size rfl hb14.out Tryz.underlying37 rfl record_size (.int .i64 0) rfl rfl ?_
        have hEf := EnM.safe (hE2.out _ (Mod.refl _ _)) hm14.out (fun a ha hh => by have : a.block = w.heap.size := hh; have := hfL.out a ha; omega) (fun a ha hh => by have : a.block = w.heap.size := hh; have := hfL.out a ha; omega)
        exact ⟨⟨⟨rep, num⟩, bal, 0, by_, en0⟩, 0, ⟨none, 0, 0⟩, ⟨none, 0, 0⟩, hf.out, rfl, hEf, (fun a ha => Nat.le_of_lt (hfL.out a ha)), (fun a ha => Nat.le_of_lt (hfL.out a ha)), st.out.mod.in_new (Nat.le_refl _) hm14.out⟩
    · have hl3 : (0 : Int) < (l5.length : Int) := by omega
      have hf := Lib.hid (rec_err hrd.out (.inr (.inr (.inl (fun hh => hl (by rw [hh] <;> rfl))))))
      subst he
      go_wp2_with (refine wpList_load_row rfl 37 (.tmp 10) rfl q rfl _ _ _ _ st.out.var Tryz.underlying37 rfl record_size ?_)
      with_reducible refine kB.out.mono ?_
      rintro en wb hpost
      obtain ⟨Ab, nb_, cb, fb, rfl, hm⟩ := hpost.any
      clear hpost
      dsimp only
      have g0 := (hbR.out.mod hm (fun hh => hh)).cell_ (i := 0) rfl
      have g1 := (hbR.out.mod hm (fun hh => hh)).cell_ (i := 1) rfl
      replace st := Lib.hid (st.out.mod0 hm)
      clear hm kB
      go_wp2_with (refine wpList_store_blk rfl 37 (.tmp 2) (.tmp 125) rfl w.heap.size 0 _ rfl rfl st.out.res (by simp) record_size (by rfl) #[.int .i64 0, .int .i64 0, .int .i64 0, .int .i64 0, .int .i64 0, .int .i64 0, .int .i64 0, .int .i64 0, .string ⟨#[]⟩, .string ⟨#[]⟩, .int .i64 0, .slice none 0 0, .int .i64 0, .int .i64 0, .string ⟨#[]⟩, .bool false, .slice none 0 0] rfl ?_; intro w14 hb14 hm14; replace hb14 := Lib.hid hb14; replace hm14 := Lib.hid hm14)
      refine ret_row_tmp rfl w.heap.size rfl hb14.out Tryz.underlying37 rfl record_size (.int .i64 3) rfl rfl ?_
      exact RcPost.zero hf.out rfl ((st.out.mod).in_new (Nat.le_refl _) hm14.out)
  · have he2 : ((e5 : Int) != 0) = true := by simp; omega
    have hf := Lib.hid (rec_err hrd.out (.inr (.inl he)))
    go_wp2_with (refine wpList_load_row rfl 37 (.tmp 10) rfl q rfl _ _ _ _ st.out.var Tryz.underlying37 rfl record_size ?_)
    with_reducible refine kB.out.mono ?_
    rintro en wb hpost
    obtain ⟨Ab, nb_, cb, fb, rfl, hm⟩ := hpost.any
    clear hpost
    dsimp only
    have g0 := (hbR.out.mod hm (fun hh => hh)).cell_ (i := 0) rfl
    have g1 := (hbR.out.mod hm (fun hh => hh)).cell_ (i := 1) rfl
    replace st := Lib.hid (st.out.mod0 hm)
    clear hm kB
    go_wp2_with (refine wpList_store_blk rfl 37 (.tmp 2) (.tmp 125) rfl w.heap.size 0 _ rfl rfl st.out.res (by simp) record_size (by rfl) #[.int .i64 0, .int .i64 0, .int .i64 0, .int .i64 0, .int .i64 0, .int .i64 0, .int .i64 0, .int .i64 0, .string ⟨#[]⟩, .string ⟨#[]⟩, .int .i64 0, .slice none 0 0, .int .i64 0, .int .i64 0, .string ⟨#[]⟩, .bool false, .slice none 0 0] rfl ?_; intro w14 hb14 hm14; replace hb14 := Lib.hid hb14; replace hm14 := Lib.hid hm14)
    refine ret_row_tmp rfl w.heap.size rfl hb14.out Tryz.underlying37 rfl record_size (.int .i64 3) rfl rfl ?_
    exact RcPost.zero hf.out rfl ((st.out.mod).in_new (Nat.le_refl _) hm14.out)
set_option maxRecDepth 100000 in
set_option maxHeartbeats 8000000 in
theorem read15_n (w : World) (A : Option Addr) (n c : Nat) (b : List UInt8) (h : RdB w A n b) (hnc : n ≤ c) (hcm : c ≤ 9223372036854775807) (rep num bal s3 by_ : Int) (e1 e2 e3 e4 e5 : Nat) (l1 l2 l3 l4 l5 : List UInt8) (h1 : qg 0 6 (0, b) = (rep, e1, l1)) (h2 : qg 0 10000 (e1, l1) = (num, e2, l2)) (h3 : qg 0 1000000 (e2, l2) = (bal, e3, l3)) (h4 : qg 0 3 (e3, l3) = (s3, e4, l4)) (h5 : qg 0 1000000 (e4, l4) = (by_, e5, l5)) (hs : s3 ≠ 0) (x : Int) (ex : Nat) (lx : List UInt8) (hx : qg 0 1 (e5, l5) = (x, ex, lx)) (hx1 : x = 1) : Calls Tryz.prog 6 #[.slice A n c] w (RcPost w (rdRec b)) := by
  subst hx1
  obtain ⟨k0, e6, l6, h6⟩ := tri_ (qg 0 100 (ex, lx))
  obtain ⟨ds, e7, l7, h7⟩ := tri_ (rdList rdIs k0.toNat (e6, l6))
  have hrd : Hid (rdR (0, b) = ((⟨⟨rep, num⟩, bal, s3, by_, ⟨od0, true, ds⟩⟩, 0), e7, l7)) := Lib.hid (by rw [rdR_head h1 h2 h3 h4 h5, if_neg hs]; rw [bd_of (show rdEn (e5, l5) = ((⟨od0, true, ds⟩, 0), e7, l7) by unfold rdEn; rw [bd_of hx, if_pos rfl, bd_of h6, bd_of h7] <;> rfl)]; rfl)
  have hk := qg_in h6
  obtain ⟨k, rfl⟩ : ∃ k : Nat, k0 = (k : Int) := ⟨k0.toNat, by omega⟩
  have hk100 : k ≤ 100 := by omega
  have hl0 : Hid (ListRel rdIs ds (e7, l7) k [] (e6, l6)) := Lib.hid ⟨ds, by simpa using h7, rfl⟩
  have hdl : Hid (ds.length ≤ 100) := Lib.hid (by have := (rdList_in rdIs_in _ _ _ _ h7).1; omega)
  have hs4 := qg_in h4
  have hs2 : (0 : Int) < s3 := by omega
  clear hs4 h7 hk
  replace hx := Lib.hid hx
  replace h6 := Lib.hid h6
  obtain ⟨B, hB, hBA⟩ : ∃ B, B ≤ w.heap.size ∧ (0 < n → ∀ k, fp A k → k = B) := by
    rcases Nat.eq_zero_or_pos n with h0 | h0
    · exact ⟨w.heap.size, Nat.le_refl _, fun hh => absurd hh (by omega)⟩
    · cases A with
      | none => exact ⟨w.heap.size, Nat.le_refl _, fun _ k hk => by obtain ⟨a, ha, _⟩ := hk; cases ha⟩
      | some a => exact ⟨a.block, Nat.le_of_lt (Rd.blt (size := 1) (xs := bvs b) h h0 (by omega) _ ⟨a, rfl, rfl⟩), fun _ k hk => by obtain ⟨a', ha, hk⟩ := hk; cases ha; exact hk.symm⟩
  have hb0 := Blk.new w 37 #[.int .i64 0, .int .i64 0, .int .i64 0, .int .i64 0, .int .i64 0, .int .i64 0, .int .i64 0, .int .i64 0, .string ⟨#[]⟩, .string ⟨#[]⟩, .int .i64 0, .slice none 0 0, .int .i64 0, .int .i64 0, .string ⟨#[]⟩, .bool false, .slice none 0 0]
  have hm0 := (Mod.refl none_ w).alloc (.cells #[.int .i64 0, .int .i64 0, .int .i64 0, .int .i64 0, .int .i64 0, .int .i64 0, .int .i64 0, .int .i64 0, .string ⟨#[]⟩, .string ⟨#[]⟩, .int .i64 0, .slice none 0 0, .int .i64 0, .int .i64 0, .string ⟨#[]⟩, .bool false, .slice none 0 0] 37)
  have hs0 : (w.alloc (.cells #[.int .i64 0, .int .i64 0, .int .i64 0, .int .i64 0, .int .i64 0, .int .i64 0, .int .i64 0, .int .i64 0, .string ⟨#[]⟩, .string ⟨#[]⟩, .int .i64 0, .slice none 0 0, .int .i64 0, .int .i64 0, .string ⟨#[]⟩, .bool false, .slice none 0 0] 37)).heap.size = w.heap.size + 1 := by simp
  have hR0 : Rdr2 ((w.alloc (.cells #[.int .i64 0, .int .i64 0, .int .i64 0, .int .i64 0, .int .i64 0, .int .i64 0, .int .i64 0, .int .i64 0, .string ⟨#[]⟩, .string ⟨#[]⟩, .int .i64 0, .slice none 0 0, .int .i64 0, .int .i64 0, .string ⟨#[]⟩, .bool false, .slice none 0 0] 37)).alloc (.cells #[.slice A n c, .int .i64 0] 63)) (w.heap.size + 1) B b 0 :=
    ⟨A, n, c, (by have := Blk.new (w.alloc (.cells #[.int .i64 0, .int .i64 0, .int .i64 0, .int .i64 0, .int .i64 0, .int .i64 0, .int .i64 0, .int .i64 0, .string ⟨#[]⟩, .string ⟨#[]⟩, .int .i64 0, .slice none 0 0, .int .i64 0, .int .i64 0, .string ⟨#[]⟩, .bool false, .slice none 0 0] 37)) 63 #[.slice A n c, .int .i64 0]; rw [hs0] at this; exact this), Rd.mod0 h (hm0.alloc _), hnc, hcm, hBA, by omega⟩
  have hbr0 := hb0.mod ((Mod.refl none_ _).alloc (.cells #[.slice A n c, .int .i64 0] 63)) (fun h => h)
  have hM0 := hm0.alloc (.cells #[.slice A n c, .int .i64 0] 63)
  replace h := Lib.hid h
  clear hs0 hb0 hm0 hnc hBA
  have hfL : Hid (∀ a, (none : Option Addr) = some a → w.heap.size < a.block) := Lib.hid (fun a ha => by cases ha)
  replace h1 := Lib.hid h1
  replace h2 := Lib.hid h2
  replace h3 := Lib.hid h3
  replace h4 := Lib.hid h4
  replace h5 := Lib.hid h5
  replace hR0 := Lib.hid hR0
  replace hbr0 := Lib.hid hbr0
  replace hM0 := Lib.hid hM0
  go_enter Tryz.func6, Tryz.ntmps6
  go_wp2_with fail
  refine (small15_r h1.out hR0.out).mono ?_; rintro en w1 ⟨rfl, hR1, hm⟩; dsimp only at hR1 ⊢
  have hbr1 := Lib.hid (hbr0.out.mod hm (fun hh => by have : w.heap.size = w.heap.size + 1 := hh; omega)); have hM1 := Lib.hid (hM0.out.in_new (by omega) hm); clear hm hR0 hbr0 hM0
  replace hR1 := Lib.hid hR1
  go_wp2_with fail
  refine (small15_r h2.out hR1.out).mono ?_; rintro en w2 ⟨rfl, hR2, hm⟩; dsimp only at hR2 ⊢
  have hbr2 := Lib.hid (hbr1.out.mod hm (fun hh => by have : w.heap.size = w.heap.size + 1 := hh; omega)); have hM2 := Lib.hid (hM1.out.in_new (by omega) hm); clear hm hR1 hbr1 hM1
  replace hR2 := Lib.hid hR2
  go_wp2_with fail
  refine (small15_r h3.out hR2.out).mono ?_; rintro en w3 ⟨rfl, hR3, hm⟩; dsimp only at hR3 ⊢
  have hbr3 := Lib.hid (hbr2.out.mod hm (fun hh => by have : w.heap.size = w.heap.size + 1 := hh; omega)); have hM3 := Lib.hid (hM2.out.in_new (by omega) hm); clear hm hR2 hbr2 hM2
  replace hR3 := Lib.hid hR3
  go_wp2_with fail
  refine (small15_r h4.out hR3.out).mono ?_; rintro en w4 ⟨rfl, hR4, hm⟩; dsimp only at hR4 ⊢
  have hbr4 := Lib.hid (hbr3.out.mod hm (fun hh => by have : w.heap.size = w.heap.size + 1 := hh; omega)); have hM4 := Lib.hid (hM3.out.in_new (by omega) hm); clear hm hR3 hbr3 hM3
  replace hR4 := Lib.hid hR4
  go_wp2_with fail
  refine (small15_r h5.out hR4.out).mono ?_; rintro en w5 ⟨rfl, hR5, hm⟩; dsimp only at hR5 ⊢
  have hbr5 := Lib.hid (hbr4.out.mod hm (fun hh => by have : w.heap.size = w.heap.size + 1 := hh; omega)); have hM5 := Lib.hid (hM4.out.in_new (by omega) hm); clear hm hR4 hbr4 hM4
  replace hR5 := Lib.hid hR5
  have hgl := hR5.out.lt
  have st : FillS2 w 37 #[.int .i64 0, .int .i64 0, .int .i64 0, .int .i64 0, .int .i64 0, .int .i64 0, .int .i64 0, .int .i64 0, .string ⟨#[]⟩, .string ⟨#[]⟩, .int .i64 0, .slice none 0 0, .int .i64 0, .int .i64 0, .string ⟨#[]⟩, .bool false, .slice none 0 0] (w.heap.size + 1) B w5.heap.size (w5.alloc (.cells #[.int .i64 rep, .int .i64 num, .int .i64 bal, .int .i64 s3, .int .i64 by_, .int .i64 0, .int .i64 0, .int .i64 0, .string ⟨#[]⟩, .string ⟨#[]⟩, .int .i64 0, .slice none 0 0, .int .i64 0, .int .i64 0, .string ⟨#[]⟩, .bool false, .slice none 0 0] 37)) #[.int .i64 rep, .int .i64 num, .int .i64 bal, .int .i64 s3, .int .i64 by_, .int .i64 0, .int .i64 0, .int .i64 0, .string ⟨#[]⟩, .string ⟨#[]⟩, .int .i64 0, .slice none 0 0, .int .i64 0, .int .i64 0, .string ⟨#[]⟩, .bool false, .slice none 0 0] e5 l5 :=
    ⟨hR5.out.mod0 ((Mod.refl none_ w5).alloc _), hbr5.out.alloc _, Blk.new w5 _ _, hM5.out.alloc _, by omega, by omega, by omega, hB⟩
  clear hR5 hbr5 hM5
  generalize hg : w.heap.size + 1 = g at st hgl
  generalize hq : w5.heap.size = q at st hgl
  have hgq : ¬ g = q := by omega
  have hqg : ¬ q = g := by omega
  replace st := Lib.hid st
  replace hg := Lib.hid hg
  go_wp2_with fail
  replace hq := Lib.hid hq
  refine (small15_r hx.out st.out.rd).mono ?_; rintro en w6 ⟨rfl, hR, hm⟩; dsimp only at hR ⊢
  replace st := Lib.hid (st.out.call hm hR); clear hm hR
  have i0 : w6.cell? ⟨q, 15, none⟩ = some (.bool false) := st.out.var.cell_ rfl
  have f0 : w6.frozen? ⟨q, 15, none⟩ = false := st.out.var.frozen 15
  obtain ⟨W, hW⟩ : ∃ W, W = w6.setCell ⟨q, 15, none⟩ (.bool true) := ⟨_, rfl⟩
  have s2 : Hid (FillS2 w 37 #[.int .i64 0, .int .i64 0, .int .i64 0, .int .i64 0, .int .i64 0, .int .i64 0, .int .i64 0, .int .i64 0, .string ⟨#[]⟩, .string ⟨#[]⟩, .int .i64 0, .slice none 0 0, .int .i64 0, .int .i64 0, .string ⟨#[]⟩, .bool false, .slice none 0 0] g B q W #[.int .i64 rep, .int .i64 num, .int .i64 bal, .int .i64 s3, .int .i64 by_, .int .i64 0, .int .i64 0, .int .i64 0, .string ⟨#[]⟩, .string ⟨#[]⟩, .int .i64 0, .slice none 0 0, .int .i64 0, .int .i64 0, .string ⟨#[]⟩, .bool true, .slice none 0 0] ex lx) := Lib.hid (hW ▸ st.out.store 15 (.bool true))
  replace hW := Lib.hid hW
  clear st
  go_wp2_with fail
  rw [← hW.out]
  clear hW i0 f0
  have st := s2
  clear s2
  obtain ⟨N, hN0⟩ : ∃ N, N = W.heap.size := ⟨_, rfl⟩
  have hN : Hid (N ≤ W.heap.size) := Lib.hid (Nat.le_of_eq hN0)
  have ls := Lib.hid (LegsSafe.zero N g q W)
  clear hN0
  refine (small15_r h6.out st.out.rd).mono ?_; rintro en w8 ⟨rfl, hR, hm⟩; dsimp only at hR ⊢
  replace ls := Lib.hid (ls.out.call hm)
  have hN8 : N ≤ w8.heap.size := Nat.le_trans hN.out hm.size
  replace st := Lib.hid (st.out.call hm hR); clear hm hR
  go_wp2_with fail
  go_loopw [16] (fun v wr => ∃ j : Nat, v = .int .i64 j ∧ j ≤ k ∧ N ≤ wr.heap.size ∧ ∃ A cp pre e l, FillS2 w 37 #[.int .i64 0, .int .i64 0, .int .i64 0, .int .i64 0, .int .i64 0, .int .i64 0, .int .i64 0, .int .i64 0, .string ⟨#[]⟩, .string ⟨#[]⟩, .int .i64 0, .slice none 0 0, .int .i64 0, .int .i64 0, .string ⟨#[]⟩, .bool false, .slice none 0 0] g B q wr #[.int .i64 rep, .int .i64 num, .int .i64 bal, .int .i64 s3, .int .i64 by_, .int .i64 0, .int .i64 0, .int .i64 0, .string ⟨#[]⟩, .string ⟨#[]⟩, .int .i64 0, .slice none 0 0, .int .i64 0, .int .i64 0, .string ⟨#[]⟩, .bool true, .slice A j cp] e l ∧ ListOwn w 25 2 g B q wr A j cp (iss pre) ∧ ListRel rdIs ds (e7, l7) (k - j) pre (e, l) ∧ LegsSafe N g q wr od0 ⟨none, 0, 0⟩ ∧ ∀ i, fp A i → N ≤ i) (fun v _ => k - (intOf v).toNat)
  case atStart => exact ⟨0, rfl, by omega, hN8, none, 0, [], e6, l6, st.out, ListOwn.nil _ _ _ _ _ _ _, hl0.out, ls.out, (fun i hi => by obtain ⟨a, ha, _⟩ := hi; cases ha)⟩
  case round =>
    clear st ls hN8 hN
    obtain ⟨j, rfl, hj, hN, A9, cp, pre, e, l, st, lo, lr, ls, hA9⟩ := hrel
    by_cases hlt : j < k
    · obtain ⟨dr, ea, la, ha⟩ := tri_ (qg 0 6 (e, l))
      obtain ⟨dn_, eb, lb, hb⟩ := tri_ (qg 0 10000 (ea, la))
      have hin : rdIs (e, l) = (⟨dr, dn_⟩, eb, lb) := by unfold rdIs; rw [bd_of ha, bd_of hb] <;> rfl
      rw [show k - j = (k - (j + 1)) + 1 by omega] at lr
      have lr2 := Lib.hid (lr.step hin)
      clear lr hin
      replace ha := Lib.hid ha
      replace hb := Lib.hid hb
      replace st := Lib.hid st
      replace lo := Lib.hid lo
      replace ls := Lib.hid ls
      replace hA9 := Lib.hid hA9
      replace hN := Lib.hid hN
      go_wp2_with fail
      refine (small15_r ha.out st.out.rd).mono ?_; rintro en w9 ⟨rfl, hR, hm⟩; dsimp only at hR ⊢
      replace lo := Lib.hid (lo.out.call hm); replace ls := Lib.hid (ls.out.call hm); replace hN := Lib.hid (Nat.le_trans hN.out hm.size)
      replace st := Lib.hid (st.out.call hm hR); clear hm hR
      go_wp2_with fail
      refine (small15_r hb.out st.out.rd).mono ?_; rintro en w10 ⟨rfl, hR, hm⟩; dsimp only at hR ⊢
      replace lo := Lib.hid (lo.out.call hm); replace ls := Lib.hid (ls.out.call hm); replace hN := Lib.hid (Nat.le_trans hN.out hm.size)
      replace st := Lib.hid (st.out.call hm hR); clear hm hR
      have i2 : w10.cell? ⟨q, 16, none⟩ = some (.slice A9 j cp) := st.out.var.cell_ rfl
      have sa := Lib.hid (st.out.alloc (.cells #[.int .i64 dr, .int .i64 dn_] 25))
      have hm0 := (Mod.refl none_ w10).alloc (.cells #[.int .i64 dr, .int .i64 dn_] 25)
      have la2 := Lib.hid (lo.out.mod0 hm0)
      have ls2 := Lib.hid (ls.out.mod0 hm0)
      have hN2 := Lib.hid (Nat.le_trans hN.out hm0.size)
      clear st lo ls hm0
      go_wp2_with (at_builtin; go_loud (refine appP2 rfl (.tmp 87) (.tmp 91) rfl rfl la2.out.ow rfl (rdp_one _ _ _ (by simp) ⟨dr, dn_⟩) (by omega) ?_; intro A11 c11 w11 ho hmA hA; obtain ⟨lo, st⟩ := la2.out.app2 sa.out ho hmA hA; have j2 := st.var.cell_ (i := 16) rfl; have f2 := st.var.frozen 16; replace ls2 := Lib.hid (ls2.out.mod hmA (fun i hi => .inr (.inr (hA9.out i hi)))); have hA11 := Lib.hid (newer hA9.out hA hN2.out); replace hN2 := Lib.hid (Nat.le_trans hN2.out hmA.size); clear ho hmA hA; replace lo := Lib.hid lo; replace st := Lib.hid st))
      have hms := Lib.hid ((Mod.refl (only q) w11).set_only 16 (.slice A11 (j + 1) c11))
      go_roundw
      case rel => exact ⟨j + 1, by go_num, by omega, Nat.le_trans hN2.out hms.out.size, A11, c11, pre ++ [⟨dr, dn_⟩], eb, lb, st.out.store 16 _, lo.out.turn hms.out, lr2.out, ls2.out.turn hms.out, hA11.out⟩
      case measure => simp [intOf]; omega
    · obtain rfl : j = k := by omega
      rw [Nat.sub_self] at lr
      obtain ⟨rfl, hel⟩ := lr.done
      simp only [Prod.mk.injEq] at hel
      obtain ⟨rfl, rfl⟩ := hel
      clear lr hl0
      have hfD : Hid (∀ a, A9 = some a → w.heap.size < a.block) := Lib.hid (fun a ha => lo.fr a.block ⟨a, ha, rfl⟩)
      have hE : Hid (∀ W', Mod none_ wr W' → EnM W' ⟨od0, true, pre⟩ ⟨none, 0, 0⟩ ⟨A9, j, cp⟩) := Lib.hid (fun W' h0 => ⟨(ls.mod0 h0).m, Rd.mod0 lo.ow.rd h0, lo.ow.2.1⟩)
      have hDl := RdP.len (show RdP wr A9 j pre from lo.ow.rd)
      clear lo ls hA9 hN
      replace st := Lib.hid st
      replace hDl := Lib.hid hDl
      have hbd : Hid ((⟨none, 0, 0⟩ : SV).n ≤ 140737488355328 ∧ (⟨A9, j, cp⟩ : SV).n ≤ 140737488355328 ∧ (∀ l ∈ (⟨od0, true, pre⟩ : En).o.legs, (txt l.n).size ≤ maxLen) ∧ (txt (⟨od0, true, pre⟩ : En).o.acct).size ≤ maxLen ∧ (txt (⟨od0, true, pre⟩ : En).o.peer).size ≤ maxLen ∧ numsE (⟨od0, true, pre⟩ : En)) := Lib.hid ⟨by decide, by have := hDl.out; (try dsimp only); omega, (fun l hl => by cases hl), (show (txt od0.acct).size ≤ maxLen by decide), (show (txt od0.peer).size ≤ maxLen by decide), (show in64 od0.sum from ⟨by decide, by decide⟩), fun l hl => by cases hl⟩
      have kB : Hid (Calls Tryz.prog 25 #[.agg #[.int .i64 rep, .int .i64 num, .int .i64 bal, .int .i64 s3, .int .i64 by_, .int .i64 0, .int .i64 0, .int .i64 0, .string ⟨#[]⟩, .string ⟨#[]⟩, .int .i64 0, .slice none 0 0, .int .i64 0, .int .i64 0, .string ⟨#[]⟩, .bool true, .slice A9 j cp]] wr (BPost wr (rightR ⟨⟨rep, num⟩, bal, s3, by_, ⟨od0, true, pre⟩⟩) (recB ⟨⟨rep, num⟩, bal, s3, by_, ⟨od0, true, pre⟩⟩))) := Lib.hid (r15bytes_ok wr ⟨⟨rep, num⟩, bal, s3, by_, ⟨od0, true, pre⟩⟩ ⟨none, 0, 0⟩ ⟨A9, j, cp⟩ (hE.out _ (Mod.refl _ _)) hbd.out.1 hbd.out.2.1 hbd.out.2.2.1 hbd.out.2.2.2.1 hbd.out.2.2.2.2.1 hbd.out.2.2.2.2.2)
      obtain ⟨rA, rn_, rc_, hbR, hrR, _, _, _, _⟩ := st.out.rd
      have hlR := hrR.len
      subst hlR
      have hrB := Lib.hid (Rd.mod0 h.out st.out.mod)
      replace hbR := Lib.hid hbR
      replace hrR := Lib.hid hrR
      by_cases he : e = 0
      · by_cases hl : l.length = 0
        · have hl1 : l = [] := List.length_eq_zero_iff.1 hl
          have hrd0 := hrd.out
          rw [he, hl1] at hrd0
          have hbe := rec_same hrd0
          cases hr : rightR ⟨⟨rep, num⟩, bal, s3, by_, ⟨od0, true, pre⟩⟩ with
          | false =>
            have hf := Lib.hid (rec_err hrd0 (.inr (.inr (.inr hr))))
            rw [hr] at kB
            clear hrd0 hbe hr
            go_wp2_with (refine wpList_load_row rfl 37 (.tmp 10) rfl q rfl _ _ _ _ st.out.var Tryz.underlying37 rfl record_size ?_)
            with_reducible refine kB.out.mono ?_
            rintro en wb hpost
            rcases hpost with ⟨hh, _⟩ | ⟨_, rfl, hm⟩
            · cases hh
            dsimp only
            have g0 := (hbR.out.mod hm (fun hh => hh)).cell_ (i := 0) rfl
            have g1 := (hbR.out.mod hm (fun hh => hh)).cell_ (i := 1) rfl
            replace st := Lib.hid (st.out.mod0 hm)
            clear hm kB
            go_wp2_with (refine wpList_store_blk rfl 37 (.tmp 2) (.tmp 125) rfl w.heap.size 0 _ rfl rfl st.out.res (by simp) record_size (by rfl) #[.int .i64 0, .int .i64 0, .int .i64 0, .int .i64 0, .int .i64 0, .int .i64 0, .int .i64 0, .int .i64 0, .string ⟨#[]⟩, .string ⟨#[]⟩, .int .i64 0, .slice none 0 0, .int .i64 0, .int .i64 0, .string ⟨#[]⟩, .bool false, .slice none 0 0] rfl ?_; intro w14 hb14 hm14; replace hb14 := Lib.hid hb14; replace hm14 := Lib.hid hm14)
            refine ret_row_tmp rfl w.heap.size rfl hb14.out Tryz.underlying37 rfl record_size (.int .i64 3) rfl rfl ?_
            exact RcPost.zero hf.out rfl ((st.out.mod).in_new (Nat.le_refl _) hm14.out)
          | true =>
            have hf := Lib.hid (rec_good hrd0 hr)
            rw [hr] at kB
            clear hr
            go_wp2_with (refine wpList_load_row rfl 37 (.tmp 10) rfl q rfl _ _ _ _ st.out.var Tryz.underlying37 rfl record_size ?_)
            with_reducible refine kB.out.mono ?_
            rintro en wb hpost
            rcases hpost with ⟨_, Ab, cb, rfl, hob, hfb, hm⟩ | ⟨hh, _⟩
            rotate_left
            · cases hh
            dsimp only
            have g0 := (hbR.out.mod hm (fun hh => hh)).cell_ (i := 0) rfl
            have g1 := (hbR.out.mod hm (fun hh => hh)).cell_ (i := 1) rfl
            have cv1 := conv_bytes0 Ab _ cb _ wb hob.rd
            have cv2 := conv_bytes0 A _ c _ wb (Rd.mod0 hrB.out hm)
            rw [hbe] at cv2
            replace st := Lib.hid (st.out.mod0 hm)
            have hE2 := Lib.hid (fun W' (hh : Mod none_ wb W') => hE.out W' (hm.trans hh))
            clear hm kB hob hfb hrd0
            replace hbe := Lib.hid hbe
            go_wp2_with (first | (refine wpList_load_row rfl 37 (.tmp 10) rfl q rfl _ _ _ _ st.out.var Tryz.underlying37 rfl record_size ?_) | (refine wpList_store_blk rfl 37 (.tmp 2) (.tmp 126) rfl w.heap.size 0 _ rfl rfl st.out.res (by simp) record_size (by rfl) #[.int .i64 rep, .int .i64 num, .int .i64 bal, .int .i64 s3, .int .i64 by_, .int .i64 0, .int .i64 0, .int .i64 0, .string ⟨#[]⟩, .string ⟨#[]⟩, .int .i64 0, .slice none 0 0, .int .i64 0, .int .i64 0, .string ⟨#[]⟩, .bool true, .slice A9 j cp] rfl ?_; intro w14 hb14 hm14; replace hb14 := Lib.hid hb14; replace hm14 := Lib.hid hm14))
            refine ret_row_tmp rfl w.heap.size rfl hb14.out Tryz.underlying37 rfl record_size (.int .i64 0) rfl rfl ?_
            have hEf := EnM.safe (hE2.out _ (Mod.refl _ _)) hm14.out (fun a ha hh => by have : a.block = w.heap.size := hh; have := hfL.out a ha; omega) (fun a ha hh => by have : a.block = w.heap.size := hh; have := hfD.out a ha; omega)
            exact ⟨⟨⟨rep, num⟩, bal, s3, by_, ⟨od0, true, pre⟩⟩, 0, ⟨none, 0, 0⟩, ⟨A9, j, cp⟩, hf.out, rfl, hEf, (fun a ha => Nat.le_of_lt (hfL.out a ha)), (fun a ha => Nat.le_of_lt (hfD.out a ha)), st.out.mod.in_new (Nat.le_refl _) hm14.out⟩
        · have hl3 : (0 : Int) < (l.length : Int) := by omega
          have hf := Lib.hid (rec_err hrd.out (.inr (.inr (.inl (fun hh => hl (by rw [hh] <;> rfl))))))
          subst he
          go_wp2_with (refine wpList_load_row rfl 37 (.tmp 10) rfl q rfl _ _ _ _ st.out.var Tryz.underlying37 rfl record_size ?_)
          with_reducible refine kB.out.mono ?_
          rintro en wb hpost
          obtain ⟨Ab, nb_, cb, fb, rfl, hm⟩ := hpost.any
          clear hpost
          dsimp only
          have g0 := (hbR.out.mod hm (fun hh => hh)).cell_ (i := 0) rfl
          have g1 := (hbR.out.mod hm (fun hh => hh)).cell_ (i := 1) rfl
          replace st := Lib.hid (st.out.mod0 hm)
          clear hm kB
          go_wp2_with (refine wpList_store_blk rfl 37 (.tmp 2) (.tmp 125) rfl w.heap.size 0 _ rfl rfl st.out.res (by simp) record_size (by rfl) #[.int .i64 0, .int .i64 0, .int .i64 0, .int .i64 0, .int .i64 0, .int .i64 0, .int .i64 0, .int .i64 0, .string ⟨#[]⟩, .string ⟨#[]⟩, .int .i64 0, .slice none 0 0, .int .i64 0, .int .i64 0, .string ⟨#[]⟩, .bool false, .slice none 0 0] rfl ?_; intro w14 hb14 hm14; replace hb14 := Lib.hid hb14; replace hm14 := Lib.hid hm14)
          refine ret_row_tmp rfl w.heap.size rfl hb14.out Tryz.underlying37 rfl record_size (.int .i64 3) rfl rfl ?_
          exact RcPost.zero hf.out rfl ((st.out.mod).in_new (Nat.le_refl _) hm14.out)
      · have he2 : ((e : Int) != 0) = true := by simp; omega
        have hf := Lib.hid (rec_err hrd.out (.inr (.inl he)))
        go_wp2_with (refine wpList_load_row rfl 37 (.tmp 10) rfl q rfl _ _ _ _ st.out.var Tryz.underlying37 rfl record_size ?_)
        with_reducible refine kB.out.mono ?_
        rintro en wb hpost
        obtain ⟨Ab, nb_, cb, fb, rfl, hm⟩ := hpost.any
        clear hpost
        dsimp only
        have g0 := (hbR.out.mod hm (fun hh => hh)).cell_ (i := 0) rfl
        have g1 := (hbR.out.mod hm (fun hh => hh)).cell_ (i := 1) rfl
        replace st := Lib.hid (st.out.mod0 hm)
        clear hm kB
        go_wp2_with (refine wpList_store_blk rfl 37 (.tmp 2) (.tmp 125) rfl w.heap.size 0 _ rfl rfl st.out.res (by simp) record_size (by rfl) #[.int .i64 0, .int .i64 0, .int .i64 0, .int .i64 0, .int .i64 0, .int .i64 0, .int .i64 0, .int .i64 0, .string ⟨#[]⟩, .string ⟨#[]⟩, .int .i64 0, .slice none 0 0, .int .i64 0, .int .i64 0, .string ⟨#[]⟩, .bool false, .slice none 0 0] rfl ?_; intro w14 hb14 hm14; replace hb14 := Lib.hid hb14; replace hm14 := Lib.hid hm14)
        refine ret_row_tmp rfl w.heap.size rfl hb14.out Tryz.underlying37 rfl record_size (.int .i64 3) rfl rfl ?_
        exact RcPost.zero hf.out rfl ((st.out.mod).in_new (Nat.le_refl _) hm14.out)
set_option maxRecDepth 100000 in
set_option maxHeartbeats 8000000 in
theorem read15_e (w : World) (A : Option Addr) (n c : Nat) (b : List UInt8) (h : RdB w A n b) (hnc : n ≤ c) (hcm : c ≤ 9223372036854775807) (rep num bal s3 by_ : Int) (e1 e2 e3 e4 e5 : Nat) (l1 l2 l3 l4 l5 : List UInt8) (h1 : qg 0 6 (0, b) = (rep, e1, l1)) (h2 : qg 0 10000 (e1, l1) = (num, e2, l2)) (h3 : qg 0 1000000 (e2, l2) = (bal, e3, l3)) (h4 : qg 0 3 (e3, l3) = (s3, e4, l4)) (h5 : qg 0 1000000 (e4, l4) = (by_, e5, l5)) (hs : s3 ≠ 0) (x : Int) (ex : Nat) (lx : List UInt8) (hx : qg 0 1 (e5, l5) = (x, ex, lx)) (hx0 : x = 0) (s : List UInt8) (es : Nat) (lsr : List UInt8) (h8 : qt 1000 (ex, lx) = (s, es, lsr)) (od : Od) (f : Nat) (ho : rdOrd s = (od, f)) (hf : f ≠ 0) : Calls Tryz.prog 6 #[.slice A n c] w (RcPost w (rdRec b)) := by
  subst hx0
  have hrd : Hid (rdRec b = (rc0, 3)) := Lib.hid (rec_err (x := ⟨⟨rep, num⟩, bal, s3, by_, ⟨od0, false, []⟩⟩) (f := f) (e := es) (l := lsr) (by rw [rdR_head h1 h2 h3 h4 h5, if_neg hs]; rw [bd_of (show rdEn (e5, l5) = ((⟨od0, false, []⟩, f), es, lsr) by unfold rdEn; rw [bd_of hx, if_neg (by omega), bd_of h8, ho]; unfold rdEnO; rw [if_pos hf] <;> rfl)]; rfl) (.inl hf))
  have hs4 := qg_in h4
  have hs2 : (0 : Int) < s3 := by omega
  clear hs4
  replace hx := Lib.hid hx
  replace h8 := Lib.hid h8
  replace ho := Lib.hid ho
  obtain ⟨B, hB, hBA⟩ : ∃ B, B ≤ w.heap.size ∧ (0 < n → ∀ k, fp A k → k = B) := by
    rcases Nat.eq_zero_or_pos n with h0 | h0
    · exact ⟨w.heap.size, Nat.le_refl _, fun hh => absurd hh (by omega)⟩
    · cases A with
      | none => exact ⟨w.heap.size, Nat.le_refl _, fun _ k hk => by obtain ⟨a, ha, _⟩ := hk; cases ha⟩
      | some a => exact ⟨a.block, Nat.le_of_lt (Rd.blt (size := 1) (xs := bvs b) h h0 (by omega) _ ⟨a, rfl, rfl⟩), fun _ k hk => by obtain ⟨a', ha, hk⟩ := hk; cases ha; exact hk.symm⟩
  have hb0 := Blk.new w 37 #[.int .i64 0, .int .i64 0, .int .i64 0, .int .i64 0, .int .i64 0, .int .i64 0, .int .i64 0, .int .i64 0, .string ⟨#[]⟩, .string ⟨#[]⟩, .int .i64 0, .slice none 0 0, .int .i64 0, .int .i64 0, .string ⟨#[]⟩, .bool false, .slice none 0 0]
  have hm0 := (Mod.refl none_ w).alloc (.cells #[.int .i64 0, .int .i64 0, .int .i64 0, .int .i64 0, .int .i64 0, .int .i64 0, .int .i64 0, .int .i64 0, .string ⟨#[]⟩, .string ⟨#[]⟩, .int .i64 0, .slice none 0 0, .int .i64 0, .int .i64 0, .string ⟨#[]⟩, .bool false, .slice none 0 0] 37)
  have hs0 : (w.alloc (.cells #[.int .i64 0, .int .i64 0, .int .i64 0, .int .i64 0, .int .i64 0, .int .i64 0, .int .i64 0, .int .i64 0, .string ⟨#[]⟩, .string ⟨#[]⟩, .int .i64 0, .slice none 0 0, .int .i64 0, .int .i64 0, .string ⟨#[]⟩, .bool false, .slice none 0 0] 37)).heap.size = w.heap.size + 1 := by simp
  have hR0 : Rdr2 ((w.alloc (.cells #[.int .i64 0, .int .i64 0, .int .i64 0, .int .i64 0, .int .i64 0, .int .i64 0, .int .i64 0, .int .i64 0, .string ⟨#[]⟩, .string ⟨#[]⟩, .int .i64 0, .slice none 0 0, .int .i64 0, .int .i64 0, .string ⟨#[]⟩, .bool false, .slice none 0 0] 37)).alloc (.cells #[.slice A n c, .int .i64 0] 63)) (w.heap.size + 1) B b 0 :=
    ⟨A, n, c, (by have := Blk.new (w.alloc (.cells #[.int .i64 0, .int .i64 0, .int .i64 0, .int .i64 0, .int .i64 0, .int .i64 0, .int .i64 0, .int .i64 0, .string ⟨#[]⟩, .string ⟨#[]⟩, .int .i64 0, .slice none 0 0, .int .i64 0, .int .i64 0, .string ⟨#[]⟩, .bool false, .slice none 0 0] 37)) 63 #[.slice A n c, .int .i64 0]; rw [hs0] at this; exact this), Rd.mod0 h (hm0.alloc _), hnc, hcm, hBA, by omega⟩
  have hbr0 := hb0.mod ((Mod.refl none_ _).alloc (.cells #[.slice A n c, .int .i64 0] 63)) (fun h => h)
  have hM0 := hm0.alloc (.cells #[.slice A n c, .int .i64 0] 63)
  replace h := Lib.hid h
  clear hs0 hb0 hm0 hnc hBA
  replace h1 := Lib.hid h1
  replace h2 := Lib.hid h2
  replace h3 := Lib.hid h3
  replace h4 := Lib.hid h4
  replace h5 := Lib.hid h5
  replace hR0 := Lib.hid hR0
  replace hbr0 := Lib.hid hbr0
  replace hM0 := Lib.hid hM0
  go_enter Tryz.func6, Tryz.ntmps6
  go_wp2_with fail
  refine (small15_r h1.out hR0.out).mono ?_; rintro en w1 ⟨rfl, hR1, hm⟩; dsimp only at hR1 ⊢
  have hbr1 := Lib.hid (hbr0.out.mod hm (fun hh => by have : w.heap.size = w.heap.size + 1 := hh; omega)); have hM1 := Lib.hid (hM0.out.in_new (by omega) hm); clear hm hR0 hbr0 hM0
  replace hR1 := Lib.hid hR1
  go_wp2_with fail
  refine (small15_r h2.out hR1.out).mono ?_; rintro en w2 ⟨rfl, hR2, hm⟩; dsimp only at hR2 ⊢
  have hbr2 := Lib.hid (hbr1.out.mod hm (fun hh => by have : w.heap.size = w.heap.size + 1 := hh; omega)); have hM2 := Lib.hid (hM1.out.in_new (by omega) hm); clear hm hR1 hbr1 hM1
  replace hR2 := Lib.hid hR2
  go_wp2_with fail
  refine (small15_r h3.out hR2.out).mono ?_; rintro en w3 ⟨rfl, hR3, hm⟩; dsimp only at hR3 ⊢
  have hbr3 := Lib.hid (hbr2.out.mod hm (fun hh => by have : w.heap.size = w.heap.size + 1 := hh; omega)); have hM3 := Lib.hid (hM2.out.in_new (by omega) hm); clear hm hR2 hbr2 hM2
  replace hR3 := Lib.hid hR3
  go_wp2_with fail
  refine (small15_r h4.out hR3.out).mono ?_; rintro en w4 ⟨rfl, hR4, hm⟩; dsimp only at hR4 ⊢
  have hbr4 := Lib.hid (hbr3.out.mod hm (fun hh => by have : w.heap.size = w.heap.size + 1 := hh; omega)); have hM4 := Lib.hid (hM3.out.in_new (by omega) hm); clear hm hR3 hbr3 hM3
  replace hR4 := Lib.hid hR4
  go_wp2_with fail
  refine (small15_r h5.out hR4.out).mono ?_; rintro en w5 ⟨rfl, hR5, hm⟩; dsimp only at hR5 ⊢
  have hbr5 := Lib.hid (hbr4.out.mod hm (fun hh => by have : w.heap.size = w.heap.size + 1 := hh; omega)); have hM5 := Lib.hid (hM4.out.in_new (by omega) hm); clear hm hR4 hbr4 hM4
  replace hR5 := Lib.hid hR5
  have hgl := hR5.out.lt
  have st : FillS2 w 37 #[.int .i64 0, .int .i64 0, .int .i64 0, .int .i64 0, .int .i64 0, .int .i64 0, .int .i64 0, .int .i64 0, .string ⟨#[]⟩, .string ⟨#[]⟩, .int .i64 0, .slice none 0 0, .int .i64 0, .int .i64 0, .string ⟨#[]⟩, .bool false, .slice none 0 0] (w.heap.size + 1) B w5.heap.size (w5.alloc (.cells #[.int .i64 rep, .int .i64 num, .int .i64 bal, .int .i64 s3, .int .i64 by_, .int .i64 0, .int .i64 0, .int .i64 0, .string ⟨#[]⟩, .string ⟨#[]⟩, .int .i64 0, .slice none 0 0, .int .i64 0, .int .i64 0, .string ⟨#[]⟩, .bool false, .slice none 0 0] 37)) #[.int .i64 rep, .int .i64 num, .int .i64 bal, .int .i64 s3, .int .i64 by_, .int .i64 0, .int .i64 0, .int .i64 0, .string ⟨#[]⟩, .string ⟨#[]⟩, .int .i64 0, .slice none 0 0, .int .i64 0, .int .i64 0, .string ⟨#[]⟩, .bool false, .slice none 0 0] e5 l5 :=
    ⟨hR5.out.mod0 ((Mod.refl none_ w5).alloc _), hbr5.out.alloc _, Blk.new w5 _ _, hM5.out.alloc _, by omega, by omega, by omega, hB⟩
  clear hR5 hbr5 hM5
  generalize hg : w.heap.size + 1 = g at st hgl
  generalize hq : w5.heap.size = q at st hgl
  have hgq : ¬ g = q := by omega
  have hqg : ¬ q = g := by omega
  replace st := Lib.hid st
  replace hg := Lib.hid hg
  go_wp2_with fail
  replace hq := Lib.hid hq
  refine (small15_r hx.out st.out.rd).mono ?_; rintro en w6 ⟨rfl, hR, hm⟩; dsimp only at hR ⊢
  replace st := Lib.hid (st.out.call hm hR); clear hm hR
  have i0 : w6.cell? ⟨q, 15, none⟩ = some (.bool false) := st.out.var.cell_ rfl
  have f0 : w6.frozen? ⟨q, 15, none⟩ = false := st.out.var.frozen 15
  obtain ⟨W, hW⟩ : ∃ W, W = w6.setCell ⟨q, 15, none⟩ (.bool false) := ⟨_, rfl⟩
  have s2 : Hid (FillS2 w 37 #[.int .i64 0, .int .i64 0, .int .i64 0, .int .i64 0, .int .i64 0, .int .i64 0, .int .i64 0, .int .i64 0, .string ⟨#[]⟩, .string ⟨#[]⟩, .int .i64 0, .slice none 0 0, .int .i64 0, .int .i64 0, .string ⟨#[]⟩, .bool false, .slice none 0 0] g B q W #[.int .i64 rep, .int .i64 num, .int .i64 bal, .int .i64 s3, .int .i64 by_, .int .i64 0, .int .i64 0, .int .i64 0, .string ⟨#[]⟩, .string ⟨#[]⟩, .int .i64 0, .slice none 0 0, .int .i64 0, .int .i64 0, .string ⟨#[]⟩, .bool false, .slice none 0 0] ex lx) := Lib.hid (hW ▸ st.out.store 15 (.bool false))
  replace hW := Lib.hid hW
  clear st
  go_wp2_with fail
  rw [← hW.out]
  clear hW i0 f0
  have st := s2
  clear s2
  refine (text_r2 h8.out (by omega) st.out.rd).mono ?_; rintro en w3 ⟨rfl, hR, hm⟩; dsimp only at hR ⊢
  replace st := Lib.hid (st.out.call hm hR); clear hm hR
  go_wp2_with (show wpList _ _ _ (⟨some 62, _, _, _, _, _⟩ :: _) _ _; go_loud (refine conv_bm rfl (.tmp 61) rfl rfl (by have := qt_in h8.out (by omega); omega) ?_; intro A2 c2 w4 hr2 hf2 hc2 hcc hm2; replace st := Lib.hid (st.out.mod0 hm2); replace hr2 := Lib.hid hr2; replace hc2 := Lib.hid hc2; replace hcc := Lib.hid hcc; clear hf2 hm2))
  have hsl := qt_in h8.out (by omega)
  refine (r6read_ok _ A2 s.length c2 s hr2.out hc2.out hcc.out).mono ?_
  rintro en w7 ⟨o', f', L, he, rfl, hO, hfr, hm⟩
  rw [r6Ord_eq, ho.out] at he
  simp only [Prod.mk.injEq] at he
  obtain ⟨rfl, rfl⟩ := he
  dsimp only
  have hn5 := st.out.new_ne
  replace st := Lib.hid (st.out.mod0 hm); clear hr2 hc2 hcc
  have hms := (Mod.refl none_ w7).alloc (.cells #[.int .i64 od.c, .int .i64 od.s, .int .i64 od.k, .string (txt od.acct), .string (txt od.peer), .int .i64 od.sum, .slice L.a L.n L.c, .int .i64 od.per, .int .i64 od.hold, .string (txt od.note)] 30)
  have h9 := Lib.hid (Blk.new w7 30 #[.int .i64 od.c, .int .i64 od.s, .int .i64 od.k, .string (txt od.acct), .string (txt od.peer), .int .i64 od.sum, .slice L.a L.n L.c, .int .i64 od.per, .int .i64 od.hold, .string (txt od.note)])
  replace st := Lib.hid (st.out.mod0 hms)
  have hf2 : ((f : Int) != 0) = true := by simp; omega
  have hf := hrd
  clear hO hfr hm hms
  go_wp2_with (refine wpList_store_blk rfl 37 (.tmp 2) (.tmp 68) rfl w.heap.size 0 _ rfl rfl st.out.res (by simp) record_size (by rfl) #[.int .i64 0, .int .i64 0, .int .i64 0, .int .i64 0, .int .i64 0, .int .i64 0, .int .i64 0, .int .i64 0, .string ⟨#[]⟩, .string ⟨#[]⟩, .int .i64 0, .slice none 0 0, .int .i64 0, .int .i64 0, .string ⟨#[]⟩, .bool false, .slice none 0 0] rfl ?_; intro w14 hb14 hm14; replace hb14 := Lib.hid hb14; replace hm14 := Lib.hid hm14)
  refine ret_row_tmp rfl w.heap.size rfl hb14.out Tryz.underlying37 rfl record_size (.int .i64 3) rfl rfl ?_
  exact RcPost.zero hf.out rfl ((st.out.mod).in_new (Nat.le_refl _) hm14.out)
set_option maxRecDepth 100000 in
set_option maxHeartbeats 8000000 in
theorem read15_o (w : World) (A : Option Addr) (n c : Nat) (b : List UInt8) (h : RdB w A n b) (hnc : n ≤ c) (hcm : c ≤ 9223372036854775807) (rep num bal s3 by_ : Int) (e1 e2 e3 e4 e5 : Nat) (l1 l2 l3 l4 l5 : List UInt8) (h1 : qg 0 6 (0, b) = (rep, e1, l1)) (h2 : qg 0 10000 (e1, l1) = (num, e2, l2)) (h3 : qg 0 1000000 (e2, l2) = (bal, e3, l3)) (h4 : qg 0 3 (e3, l3) = (s3, e4, l4)) (h5 : qg 0 1000000 (e4, l4) = (by_, e5, l5)) (hs : s3 ≠ 0) (x : Int) (ex : Nat) (lx : List UInt8) (hx : qg 0 1 (e5, l5) = (x, ex, lx)) (hx0 : x = 0) (s : List UInt8) (es : Nat) (lsr : List UInt8) (h8 : qt 1000 (ex, lx) = (s, es, lsr)) (od : Od) (f : Nat) (ho : rdOrd s = (od, f)) (hf : f = 0) : Calls Tryz.prog 6 #[.slice A n c] w (RcPost w (rdRec b)) := by
  subst hx0
  subst hf
  obtain ⟨k0, e6, l6, h6⟩ := tri_ (qg 0 100 (es, lsr))
  obtain ⟨ds, e7, l7, h7⟩ := tri_ (rdList rdIs k0.toNat (e6, l6))
  have hen : rdEn (e5, l5) = ((⟨od, false, ds⟩, 0), e7, l7) := by unfold rdEn; rw [bd_of hx, if_neg (by omega), bd_of h8, ho]; unfold rdEnO; rw [if_neg (by omega), bd_of h6, bd_of h7] <;> rfl
  have hrd : Hid (rdR (0, b) = ((⟨⟨rep, num⟩, bal, s3, by_, ⟨od, false, ds⟩⟩, 0), e7, l7)) := Lib.hid (by rw [rdR_head h1 h2 h3 h4 h5, if_neg hs]; rw [bd_of hen] <;> rfl)
  have hodf := od_facts (rdOrd_in ho)
  have hodg := od_facts2 (rdOrd_in ho)
  have hk := qg_in h6
  obtain ⟨k, rfl⟩ : ∃ k : Nat, k0 = (k : Int) := ⟨k0.toNat, by omega⟩
  have hk100 : k ≤ 100 := by omega
  have hl0 : Hid (ListRel rdIs ds (e7, l7) k [] (e6, l6)) := Lib.hid ⟨ds, by simpa using h7, rfl⟩
  have hdl : Hid (ds.length ≤ 100) := Lib.hid (by have := (rdList_in rdIs_in _ _ _ _ h7).1; omega)
  clear h7 hk hen
  replace h6 := Lib.hid h6
  replace hodf := Lib.hid hodf
  replace hodg := Lib.hid hodg
  have hs4 := qg_in h4
  have hs2 : (0 : Int) < s3 := by omega
  clear hs4
  replace hx := Lib.hid hx
  replace h8 := Lib.hid h8
  replace ho := Lib.hid ho
  obtain ⟨B, hB, hBA⟩ : ∃ B, B ≤ w.heap.size ∧ (0 < n → ∀ k, fp A k → k = B) := by
    rcases Nat.eq_zero_or_pos n with h0 | h0
    · exact ⟨w.heap.size, Nat.le_refl _, fun hh => absurd hh (by omega)⟩
    · cases A with
      | none => exact ⟨w.heap.size, Nat.le_refl _, fun _ k hk => by obtain ⟨a, ha, _⟩ := hk; cases ha⟩
      | some a => exact ⟨a.block, Nat.le_of_lt (Rd.blt (size := 1) (xs := bvs b) h h0 (by omega) _ ⟨a, rfl, rfl⟩), fun _ k hk => by obtain ⟨a', ha, hk⟩ := hk; cases ha; exact hk.symm⟩
  have hb0 := Blk.new w 37 #[.int .i64 0, .int .i64 0, .int .i64 0, .int .i64 0, .int .i64 0, .int .i64 0, .int .i64 0, .int .i64 0, .string ⟨#[]⟩, .string ⟨#[]⟩, .int .i64 0, .slice none 0 0, .int .i64 0, .int .i64 0, .string ⟨#[]⟩, .bool false, .slice none 0 0]
  have hm0 := (Mod.refl none_ w).alloc (.cells #[.int .i64 0, .int .i64 0, .int .i64 0, .int .i64 0, .int .i64 0, .int .i64 0, .int .i64 0, .int .i64 0, .string ⟨#[]⟩, .string ⟨#[]⟩, .int .i64 0, .slice none 0 0, .int .i64 0, .int .i64 0, .string ⟨#[]⟩, .bool false, .slice none 0 0] 37)
  have hs0 : (w.alloc (.cells #[.int .i64 0, .int .i64 0, .int .i64 0, .int .i64 0, .int .i64 0, .int .i64 0, .int .i64 0, .int .i64 0, .string ⟨#[]⟩, .string ⟨#[]⟩, .int .i64 0, .slice none 0 0, .int .i64 0, .int .i64 0, .string ⟨#[]⟩, .bool false, .slice none 0 0] 37)).heap.size = w.heap.size + 1 := by simp
  have hR0 : Rdr2 ((w.alloc (.cells #[.int .i64 0, .int .i64 0, .int .i64 0, .int .i64 0, .int .i64 0, .int .i64 0, .int .i64 0, .int .i64 0, .string ⟨#[]⟩, .string ⟨#[]⟩, .int .i64 0, .slice none 0 0, .int .i64 0, .int .i64 0, .string ⟨#[]⟩, .bool false, .slice none 0 0] 37)).alloc (.cells #[.slice A n c, .int .i64 0] 63)) (w.heap.size + 1) B b 0 :=
    ⟨A, n, c, (by have := Blk.new (w.alloc (.cells #[.int .i64 0, .int .i64 0, .int .i64 0, .int .i64 0, .int .i64 0, .int .i64 0, .int .i64 0, .int .i64 0, .string ⟨#[]⟩, .string ⟨#[]⟩, .int .i64 0, .slice none 0 0, .int .i64 0, .int .i64 0, .string ⟨#[]⟩, .bool false, .slice none 0 0] 37)) 63 #[.slice A n c, .int .i64 0]; rw [hs0] at this; exact this), Rd.mod0 h (hm0.alloc _), hnc, hcm, hBA, by omega⟩
  have hbr0 := hb0.mod ((Mod.refl none_ _).alloc (.cells #[.slice A n c, .int .i64 0] 63)) (fun h => h)
  have hM0 := hm0.alloc (.cells #[.slice A n c, .int .i64 0] 63)
  replace h := Lib.hid h
  clear hs0 hb0 hm0 hnc hBA
  replace h1 := Lib.hid h1
  replace h2 := Lib.hid h2
  replace h3 := Lib.hid h3
  replace h4 := Lib.hid h4
  replace h5 := Lib.hid h5
  replace hR0 := Lib.hid hR0
  replace hbr0 := Lib.hid hbr0
  replace hM0 := Lib.hid hM0
  go_enter Tryz.func6, Tryz.ntmps6
  go_wp2_with fail
  refine (small15_r h1.out hR0.out).mono ?_; rintro en w1 ⟨rfl, hR1, hm⟩; dsimp only at hR1 ⊢
  have hbr1 := Lib.hid (hbr0.out.mod hm (fun hh => by have : w.heap.size = w.heap.size + 1 := hh; omega)); have hM1 := Lib.hid (hM0.out.in_new (by omega) hm); clear hm hR0 hbr0 hM0
  replace hR1 := Lib.hid hR1
  go_wp2_with fail
  refine (small15_r h2.out hR1.out).mono ?_; rintro en w2 ⟨rfl, hR2, hm⟩; dsimp only at hR2 ⊢
  have hbr2 := Lib.hid (hbr1.out.mod hm (fun hh => by have : w.heap.size = w.heap.size + 1 := hh; omega)); have hM2 := Lib.hid (hM1.out.in_new (by omega) hm); clear hm hR1 hbr1 hM1
  replace hR2 := Lib.hid hR2
  go_wp2_with fail
  refine (small15_r h3.out hR2.out).mono ?_; rintro en w3 ⟨rfl, hR3, hm⟩; dsimp only at hR3 ⊢
  have hbr3 := Lib.hid (hbr2.out.mod hm (fun hh => by have : w.heap.size = w.heap.size + 1 := hh; omega)); have hM3 := Lib.hid (hM2.out.in_new (by omega) hm); clear hm hR2 hbr2 hM2
  replace hR3 := Lib.hid hR3
  go_wp2_with fail
  refine (small15_r h4.out hR3.out).mono ?_; rintro en w4 ⟨rfl, hR4, hm⟩; dsimp only at hR4 ⊢
  have hbr4 := Lib.hid (hbr3.out.mod hm (fun hh => by have : w.heap.size = w.heap.size + 1 := hh; omega)); have hM4 := Lib.hid (hM3.out.in_new (by omega) hm); clear hm hR3 hbr3 hM3
  replace hR4 := Lib.hid hR4
  go_wp2_with fail
  refine (small15_r h5.out hR4.out).mono ?_; rintro en w5 ⟨rfl, hR5, hm⟩; dsimp only at hR5 ⊢
  have hbr5 := Lib.hid (hbr4.out.mod hm (fun hh => by have : w.heap.size = w.heap.size + 1 := hh; omega)); have hM5 := Lib.hid (hM4.out.in_new (by omega) hm); clear hm hR4 hbr4 hM4
  replace hR5 := Lib.hid hR5
  have hgl := hR5.out.lt
  have st : FillS2 w 37 #[.int .i64 0, .int .i64 0, .int .i64 0, .int .i64 0, .int .i64 0, .int .i64 0, .int .i64 0, .int .i64 0, .string ⟨#[]⟩, .string ⟨#[]⟩, .int .i64 0, .slice none 0 0, .int .i64 0, .int .i64 0, .string ⟨#[]⟩, .bool false, .slice none 0 0] (w.heap.size + 1) B w5.heap.size (w5.alloc (.cells #[.int .i64 rep, .int .i64 num, .int .i64 bal, .int .i64 s3, .int .i64 by_, .int .i64 0, .int .i64 0, .int .i64 0, .string ⟨#[]⟩, .string ⟨#[]⟩, .int .i64 0, .slice none 0 0, .int .i64 0, .int .i64 0, .string ⟨#[]⟩, .bool false, .slice none 0 0] 37)) #[.int .i64 rep, .int .i64 num, .int .i64 bal, .int .i64 s3, .int .i64 by_, .int .i64 0, .int .i64 0, .int .i64 0, .string ⟨#[]⟩, .string ⟨#[]⟩, .int .i64 0, .slice none 0 0, .int .i64 0, .int .i64 0, .string ⟨#[]⟩, .bool false, .slice none 0 0] e5 l5 :=
    ⟨hR5.out.mod0 ((Mod.refl none_ w5).alloc _), hbr5.out.alloc _, Blk.new w5 _ _, hM5.out.alloc _, by omega, by omega, by omega, hB⟩
  clear hR5 hbr5 hM5
  generalize hg : w.heap.size + 1 = g at st hgl
  generalize hq : w5.heap.size = q at st hgl
  have hgq : ¬ g = q := by omega
  have hqg : ¬ q = g := by omega
  replace st := Lib.hid st
  replace hg := Lib.hid hg
  go_wp2_with fail
  replace hq := Lib.hid hq
  refine (small15_r hx.out st.out.rd).mono ?_; rintro en w6 ⟨rfl, hR, hm⟩; dsimp only at hR ⊢
  replace st := Lib.hid (st.out.call hm hR); clear hm hR
  have i0 : w6.cell? ⟨q, 15, none⟩ = some (.bool false) := st.out.var.cell_ rfl
  have f0 : w6.frozen? ⟨q, 15, none⟩ = false := st.out.var.frozen 15
  obtain ⟨W, hW⟩ : ∃ W, W = w6.setCell ⟨q, 15, none⟩ (.bool false) := ⟨_, rfl⟩
  have s2 : Hid (FillS2 w 37 #[.int .i64 0, .int .i64 0, .int .i64 0, .int .i64 0, .int .i64 0, .int .i64 0, .int .i64 0, .int .i64 0, .string ⟨#[]⟩, .string ⟨#[]⟩, .int .i64 0, .slice none 0 0, .int .i64 0, .int .i64 0, .string ⟨#[]⟩, .bool false, .slice none 0 0] g B q W #[.int .i64 rep, .int .i64 num, .int .i64 bal, .int .i64 s3, .int .i64 by_, .int .i64 0, .int .i64 0, .int .i64 0, .string ⟨#[]⟩, .string ⟨#[]⟩, .int .i64 0, .slice none 0 0, .int .i64 0, .int .i64 0, .string ⟨#[]⟩, .bool false, .slice none 0 0] ex lx) := Lib.hid (hW ▸ st.out.store 15 (.bool false))
  replace hW := Lib.hid hW
  clear st
  go_wp2_with fail
  rw [← hW.out]
  clear hW i0 f0
  have st := s2
  clear s2
  refine (text_r2 h8.out (by omega) st.out.rd).mono ?_; rintro en w3 ⟨rfl, hR, hm⟩; dsimp only at hR ⊢
  replace st := Lib.hid (st.out.call hm hR); clear hm hR
  go_wp2_with (show wpList _ _ _ (⟨some 62, _, _, _, _, _⟩ :: _) _ _; go_loud (refine conv_bm rfl (.tmp 61) rfl rfl (by have := qt_in h8.out (by omega); omega) ?_; intro A2 c2 w4 hr2 hf2 hc2 hcc hm2; replace st := Lib.hid (st.out.mod0 hm2); replace hr2 := Lib.hid hr2; replace hc2 := Lib.hid hc2; replace hcc := Lib.hid hcc; clear hf2 hm2))
  have hsl := qt_in h8.out (by omega)
  refine (r6read_ok _ A2 s.length c2 s hr2.out hc2.out hcc.out).mono ?_
  rintro en w7 ⟨o', f', L, he, rfl, hO, hfr, hm⟩
  rw [r6Ord_eq, ho.out] at he
  simp only [Prod.mk.injEq] at he
  obtain ⟨rfl, rfl⟩ := he
  dsimp only
  have hn5 := st.out.new_ne
  replace st := Lib.hid (st.out.mod0 hm); clear hr2 hc2 hcc
  have hms := (Mod.refl none_ w7).alloc (.cells #[.int .i64 od.c, .int .i64 od.s, .int .i64 od.k, .string (txt od.acct), .string (txt od.peer), .int .i64 od.sum, .slice L.a L.n L.c, .int .i64 od.per, .int .i64 od.hold, .string (txt od.note)] 30)
  have h9 := Lib.hid (Blk.new w7 30 #[.int .i64 od.c, .int .i64 od.s, .int .i64 od.k, .string (txt od.acct), .string (txt od.peer), .int .i64 od.sum, .slice L.a L.n L.c, .int .i64 od.per, .int .i64 od.hold, .string (txt od.note)])
  replace st := Lib.hid (st.out.mod0 hms)
  obtain ⟨N, hN0⟩ : ∃ N, N = (w7.alloc (.cells #[.int .i64 od.c, .int .i64 od.s, .int .i64 od.k, .string (txt od.acct), .string (txt od.peer), .int .i64 od.sum, .slice L.a L.n L.c, .int .i64 od.per, .int .i64 od.hold, .string (txt od.note)] 30)).heap.size := ⟨_, rfl⟩
  have ls0 := Lib.hid (LegsSafe.of (N := N) (g := g) (q := q) (hO.mod0 hms) hfr hn5.2.1 hn5.2.2.2 (by omega))
  have hfL : Hid (∀ a, L.a = some a → w.heap.size < a.block) := Lib.hid (fun a ha => Nat.lt_of_lt_of_le hn5.1 (hfr a ha))
  have hLl := Lib.hid hO.rd.len
  replace hN0 := Lib.hid hN0
  clear hms hO hfr hm hn5
  go_wp2_with (first | (refine wpList_load_row rfl 30 (.tmp 13) rfl w7.heap.size rfl _ _ _ _ h9.out Tryz.underlying30 rfl order_size ?_) | (refine wpList_store_blk rfl 30 (.tmp 72) (.tmp 69) rfl q 5 _ rfl rfl st.out.var (by simp) order_size (by rfl) #[.int .i64 rep, .int .i64 num, .int .i64 bal, .int .i64 s3, .int .i64 by_, .int .i64 od.c, .int .i64 od.s, .int .i64 od.k, .string (txt od.acct), .string (txt od.peer), .int .i64 od.sum, .slice L.a L.n L.c, .int .i64 od.per, .int .i64 od.hold, .string (txt od.note), .bool false, .slice none 0 0] rfl ?_; intro w7b hb7 hm7; replace hb7 := Lib.hid hb7; replace hm7 := Lib.hid hm7))
  replace st := Lib.hid (st.out.turn hm7.out hb7.out)
  have ls := Lib.hid (ls0.out.turn hm7.out)
  have hN := Lib.hid (show N ≤ w7b.heap.size by have := hN0.out; have := hm7.out.size; omega)
  clear ls0 hb7 hm7 h9
  refine (small15_r h6.out st.out.rd).mono ?_; rintro en w8 ⟨rfl, hR, hm⟩; dsimp only at hR ⊢
  replace ls := Lib.hid (ls.out.call hm)
  have hN8 : N ≤ w8.heap.size := Nat.le_trans hN.out hm.size
  replace st := Lib.hid (st.out.call hm hR); clear hm hR
  go_wp2_with fail
  go_loopw [16] (fun v wr => ∃ j : Nat, v = .int .i64 j ∧ j ≤ k ∧ N ≤ wr.heap.size ∧ ∃ A cp pre e l, FillS2 w 37 #[.int .i64 0, .int .i64 0, .int .i64 0, .int .i64 0, .int .i64 0, .int .i64 0, .int .i64 0, .int .i64 0, .string ⟨#[]⟩, .string ⟨#[]⟩, .int .i64 0, .slice none 0 0, .int .i64 0, .int .i64 0, .string ⟨#[]⟩, .bool false, .slice none 0 0] g B q wr #[.int .i64 rep, .int .i64 num, .int .i64 bal, .int .i64 s3, .int .i64 by_, .int .i64 od.c, .int .i64 od.s, .int .i64 od.k, .string (txt od.acct), .string (txt od.peer), .int .i64 od.sum, .slice L.a L.n L.c, .int .i64 od.per, .int .i64 od.hold, .string (txt od.note), .bool false, .slice A j cp] e l ∧ ListOwn w 25 2 g B q wr A j cp (iss pre) ∧ ListRel rdIs ds (e7, l7) (k - j) pre (e, l) ∧ LegsSafe N g q wr od L ∧ ∀ i, fp A i → N ≤ i) (fun v _ => k - (intOf v).toNat)
  case atStart => exact ⟨0, rfl, by omega, hN8, none, 0, [], e6, l6, st.out, ListOwn.nil _ _ _ _ _ _ _, hl0.out, ls.out, (fun i hi => by obtain ⟨a, ha, _⟩ := hi; cases ha)⟩
  case round =>
    clear st ls hN8 hN
    obtain ⟨j, rfl, hj, hN, A9, cp, pre, e, l, st, lo, lr, ls, hA9⟩ := hrel
    by_cases hlt : j < k
    · obtain ⟨dr, ea, la, ha⟩ := tri_ (qg 0 6 (e, l))
      obtain ⟨dn_, eb, lb, hb⟩ := tri_ (qg 0 10000 (ea, la))
      have hin : rdIs (e, l) = (⟨dr, dn_⟩, eb, lb) := by unfold rdIs; rw [bd_of ha, bd_of hb] <;> rfl
      rw [show k - j = (k - (j + 1)) + 1 by omega] at lr
      have lr2 := Lib.hid (lr.step hin)
      clear lr hin
      replace ha := Lib.hid ha
      replace hb := Lib.hid hb
      replace st := Lib.hid st
      replace lo := Lib.hid lo
      replace ls := Lib.hid ls
      replace hA9 := Lib.hid hA9
      replace hN := Lib.hid hN
      go_wp2_with fail
      refine (small15_r ha.out st.out.rd).mono ?_; rintro en w9 ⟨rfl, hR, hm⟩; dsimp only at hR ⊢
      replace lo := Lib.hid (lo.out.call hm); replace ls := Lib.hid (ls.out.call hm); replace hN := Lib.hid (Nat.le_trans hN.out hm.size)
      replace st := Lib.hid (st.out.call hm hR); clear hm hR
      go_wp2_with fail
      refine (small15_r hb.out st.out.rd).mono ?_; rintro en w10 ⟨rfl, hR, hm⟩; dsimp only at hR ⊢
      replace lo := Lib.hid (lo.out.call hm); replace ls := Lib.hid (ls.out.call hm); replace hN := Lib.hid (Nat.le_trans hN.out hm.size)
      replace st := Lib.hid (st.out.call hm hR); clear hm hR
      have i2 : w10.cell? ⟨q, 16, none⟩ = some (.slice A9 j cp) := st.out.var.cell_ rfl
      have sa := Lib.hid (st.out.alloc (.cells #[.int .i64 dr, .int .i64 dn_] 25))
      have hm0 := (Mod.refl none_ w10).alloc (.cells #[.int .i64 dr, .int .i64 dn_] 25)
      have la2 := Lib.hid (lo.out.mod0 hm0)
      have ls2 := Lib.hid (ls.out.mod0 hm0)
      have hN2 := Lib.hid (Nat.le_trans hN.out hm0.size)
      clear st lo ls hm0
      go_wp2_with (at_builtin; go_loud (refine appP2 rfl (.tmp 87) (.tmp 91) rfl rfl la2.out.ow rfl (rdp_one _ _ _ (by simp) ⟨dr, dn_⟩) (by omega) ?_; intro A11 c11 w11 ho hmA hA; obtain ⟨lo, st⟩ := la2.out.app2 sa.out ho hmA hA; have j2 := st.var.cell_ (i := 16) rfl; have f2 := st.var.frozen 16; replace ls2 := Lib.hid (ls2.out.mod hmA (fun i hi => .inr (.inr (hA9.out i hi)))); have hA11 := Lib.hid (newer hA9.out hA hN2.out); replace hN2 := Lib.hid (Nat.le_trans hN2.out hmA.size); clear ho hmA hA; replace lo := Lib.hid lo; replace st := Lib.hid st))
      have hms := Lib.hid ((Mod.refl (only q) w11).set_only 16 (.slice A11 (j + 1) c11))
      go_roundw
      case rel => exact ⟨j + 1, by go_num, by omega, Nat.le_trans hN2.out hms.out.size, A11, c11, pre ++ [⟨dr, dn_⟩], eb, lb, st.out.store 16 _, lo.out.turn hms.out, lr2.out, ls2.out.turn hms.out, hA11.out⟩
      case measure => simp [intOf]; omega
    · obtain rfl : j = k := by omega
      rw [Nat.sub_self] at lr
      obtain ⟨rfl, hel⟩ := lr.done
      simp only [Prod.mk.injEq] at hel
      obtain ⟨rfl, rfl⟩ := hel
      clear lr hl0
      have hfD : Hid (∀ a, A9 = some a → w.heap.size < a.block) := Lib.hid (fun a ha => lo.fr a.block ⟨a, ha, rfl⟩)
      have hE : Hid (∀ W', Mod none_ wr W' → EnM W' ⟨od, false, pre⟩ L ⟨A9, j, cp⟩) := Lib.hid (fun W' h0 => ⟨(ls.mod0 h0).m, Rd.mod0 lo.ow.rd h0, lo.ow.2.1⟩)
      have hDl := RdP.len (show RdP wr A9 j pre from lo.ow.rd)
      clear lo ls hA9 hN
      replace st := Lib.hid st
      replace hDl := Lib.hid hDl
      have hbd : Hid (L.n ≤ 140737488355328 ∧ (⟨A9, j, cp⟩ : SV).n ≤ 140737488355328 ∧ (∀ l ∈ (⟨od, false, pre⟩ : En).o.legs, (txt l.n).size ≤ maxLen) ∧ (txt (⟨od, false, pre⟩ : En).o.acct).size ≤ maxLen ∧ (txt (⟨od, false, pre⟩ : En).o.peer).size ≤ maxLen ∧ numsE (⟨od, false, pre⟩ : En)) := Lib.hid ⟨by have := hLl.out; have := hodf.out.1; (try dsimp only at this ⊢); omega, by have := hDl.out; have := hdl.out; (try dsimp only); omega, hodf.out.2.2, hodg.out.2.2.1, hodg.out.2.2.2, hodg.out.1, hodg.out.2.1⟩
      have kB : Hid (Calls Tryz.prog 25 #[.agg #[.int .i64 rep, .int .i64 num, .int .i64 bal, .int .i64 s3, .int .i64 by_, .int .i64 od.c, .int .i64 od.s, .int .i64 od.k, .string (txt od.acct), .string (txt od.peer), .int .i64 od.sum, .slice L.a L.n L.c, .int .i64 od.per, .int .i64 od.hold, .string (txt od.note), .bool false, .slice A9 j cp]] wr (BPost wr (rightR ⟨⟨rep, num⟩, bal, s3, by_, ⟨od, false, pre⟩⟩) (recB ⟨⟨rep, num⟩, bal, s3, by_, ⟨od, false, pre⟩⟩))) := Lib.hid (r15bytes_ok wr ⟨⟨rep, num⟩, bal, s3, by_, ⟨od, false, pre⟩⟩ L ⟨A9, j, cp⟩ (hE.out _ (Mod.refl _ _)) hbd.out.1 hbd.out.2.1 hbd.out.2.2.1 hbd.out.2.2.2.1 hbd.out.2.2.2.2.1 hbd.out.2.2.2.2.2)
      obtain ⟨rA, rn_, rc_, hbR, hrR, _, _, _, _⟩ := st.out.rd
      have hlR := hrR.len
      subst hlR
      have hrB := Lib.hid (Rd.mod0 h.out st.out.mod)
      replace hbR := Lib.hid hbR
      replace hrR := Lib.hid hrR
      by_cases he : e = 0
      · by_cases hl : l.length = 0
        · have hl1 : l = [] := List.length_eq_zero_iff.1 hl
          have hrd0 := hrd.out
          rw [he, hl1] at hrd0
          have hbe := rec_same hrd0
          cases hr : rightR ⟨⟨rep, num⟩, bal, s3, by_, ⟨od, false, pre⟩⟩ with
          | false =>
            have hf := Lib.hid (rec_err hrd0 (.inr (.inr (.inr hr))))
            rw [hr] at kB
            clear hrd0 hbe hr
            go_wp2_with (refine wpList_load_row rfl 37 (.tmp 10) rfl q rfl _ _ _ _ st.out.var Tryz.underlying37 rfl record_size ?_)
            with_reducible refine kB.out.mono ?_
            rintro en wb hpost
            rcases hpost with ⟨hh, _⟩ | ⟨_, rfl, hm⟩
            · cases hh
            dsimp only
            have g0 := (hbR.out.mod hm (fun hh => hh)).cell_ (i := 0) rfl
            have g1 := (hbR.out.mod hm (fun hh => hh)).cell_ (i := 1) rfl
            replace st := Lib.hid (st.out.mod0 hm)
            clear hm kB
            go_wp2_with (refine wpList_store_blk rfl 37 (.tmp 2) (.tmp 125) rfl w.heap.size 0 _ rfl rfl st.out.res (by simp) record_size (by rfl) #[.int .i64 0, .int .i64 0, .int .i64 0, .int .i64 0, .int .i64 0, .int .i64 0, .int .i64 0, .int .i64 0, .string ⟨#[]⟩, .string ⟨#[]⟩, .int .i64 0, .slice none 0 0, .int .i64 0, .int .i64 0, .string ⟨#[]⟩, .bool false, .slice none 0 0] rfl ?_; intro w14 hb14 hm14; replace hb14 := Lib.hid hb14; replace hm14 := Lib.hid hm14)
            refine ret_row_tmp rfl w.heap.size rfl hb14.out Tryz.underlying37 rfl record_size (.int .i64 3) rfl rfl ?_
            exact RcPost.zero hf.out rfl ((st.out.mod).in_new (Nat.le_refl _) hm14.out)
          | true =>
            have hf := Lib.hid (rec_good hrd0 hr)
            rw [hr] at kB
            clear hr
            go_wp2_with (refine wpList_load_row rfl 37 (.tmp 10) rfl q rfl _ _ _ _ st.out.var Tryz.underlying37 rfl record_size ?_)
            with_reducible refine kB.out.mono ?_
            rintro en wb hpost
            rcases hpost with ⟨_, Ab, cb, rfl, hob, hfb, hm⟩ | ⟨hh, _⟩
            rotate_left
            · cases hh
            dsimp only
            have g0 := (hbR.out.mod hm (fun hh => hh)).cell_ (i := 0) rfl
            have g1 := (hbR.out.mod hm (fun hh => hh)).cell_ (i := 1) rfl
            have cv1 := conv_bytes0 Ab _ cb _ wb hob.rd
            have cv2 := conv_bytes0 A _ c _ wb (Rd.mod0 hrB.out hm)
            rw [hbe] at cv2
            replace st := Lib.hid (st.out.mod0 hm)
            have hE2 := Lib.hid (fun W' (hh : Mod none_ wb W') => hE.out W' (hm.trans hh))
            clear hm kB hob hfb hrd0
            replace hbe := Lib.hid hbe
            go_wp2_with (first | (refine wpList_load_row rfl 37 (.tmp 10) rfl q rfl _ _ _ _ st.out.var Tryz.underlying37 rfl record_size ?_) | (refine wpList_store_blk rfl 37 (.tmp 2) (.tmp 126) rfl w.heap.size 0 _ rfl rfl st.out.res (by simp) record_size (by rfl) #[.int .i64 rep, .int .i64 num, .int .i64 bal, .int .i64 s3, .int .i64 by_, .int .i64 od.c, .int .i64 od.s, .int .i64 od.k, .string (txt od.acct), .string (txt od.peer), .int .i64 od.sum, .slice L.a L.n L.c, .int .i64 od.per, .int .i64 od.hold, .string (txt od.note), .bool false, .slice A9 j cp] rfl ?_; intro w14 hb14 hm14; replace hb14 := Lib.hid hb14; replace hm14 := Lib.hid hm14))
            refine ret_row_tmp rfl w.heap.size rfl hb14.out Tryz.underlying37 rfl record_size (.int .i64 0) rfl rfl ?_
            have hEf := EnM.safe (hE2.out _ (Mod.refl _ _)) hm14.out (fun a ha hh => by have : a.block = w.heap.size := hh; have := hfL.out a ha; omega) (fun a ha hh => by have : a.block = w.heap.size := hh; have := hfD.out a ha; omega)
            exact ⟨⟨⟨rep, num⟩, bal, s3, by_, ⟨od, false, pre⟩⟩, 0, L, ⟨A9, j, cp⟩, hf.out, rfl, hEf, (fun a ha => Nat.le_of_lt (hfL.out a ha)), (fun a ha => Nat.le_of_lt (hfD.out a ha)), st.out.mod.in_new (Nat.le_refl _) hm14.out⟩
        · have hl3 : (0 : Int) < (l.length : Int) := by omega
          have hf := Lib.hid (rec_err hrd.out (.inr (.inr (.inl (fun hh => hl (by rw [hh] <;> rfl))))))
          subst he
          go_wp2_with (refine wpList_load_row rfl 37 (.tmp 10) rfl q rfl _ _ _ _ st.out.var Tryz.underlying37 rfl record_size ?_)
          with_reducible refine kB.out.mono ?_
          rintro en wb hpost
          obtain ⟨Ab, nb_, cb, fb, rfl, hm⟩ := hpost.any
          clear hpost
          dsimp only
          have g0 := (hbR.out.mod hm (fun hh => hh)).cell_ (i := 0) rfl
          have g1 := (hbR.out.mod hm (fun hh => hh)).cell_ (i := 1) rfl
          replace st := Lib.hid (st.out.mod0 hm)
          clear hm kB
          go_wp2_with (refine wpList_store_blk rfl 37 (.tmp 2) (.tmp 125) rfl w.heap.size 0 _ rfl rfl st.out.res (by simp) record_size (by rfl) #[.int .i64 0, .int .i64 0, .int .i64 0, .int .i64 0, .int .i64 0, .int .i64 0, .int .i64 0, .int .i64 0, .string ⟨#[]⟩, .string ⟨#[]⟩, .int .i64 0, .slice none 0 0, .int .i64 0, .int .i64 0, .string ⟨#[]⟩, .bool false, .slice none 0 0] rfl ?_; intro w14 hb14 hm14; replace hb14 := Lib.hid hb14; replace hm14 := Lib.hid hm14)
          refine ret_row_tmp rfl w.heap.size rfl hb14.out Tryz.underlying37 rfl record_size (.int .i64 3) rfl rfl ?_
          exact RcPost.zero hf.out rfl ((st.out.mod).in_new (Nat.le_refl _) hm14.out)
      · have he2 : ((e : Int) != 0) = true := by simp; omega
        have hf := Lib.hid (rec_err hrd.out (.inr (.inl he)))
        go_wp2_with (refine wpList_load_row rfl 37 (.tmp 10) rfl q rfl _ _ _ _ st.out.var Tryz.underlying37 rfl record_size ?_)
        with_reducible refine kB.out.mono ?_
        rintro en wb hpost
        obtain ⟨Ab, nb_, cb, fb, rfl, hm⟩ := hpost.any
        clear hpost
        dsimp only
        have g0 := (hbR.out.mod hm (fun hh => hh)).cell_ (i := 0) rfl
        have g1 := (hbR.out.mod hm (fun hh => hh)).cell_ (i := 1) rfl
        replace st := Lib.hid (st.out.mod0 hm)
        clear hm kB
        go_wp2_with (refine wpList_store_blk rfl 37 (.tmp 2) (.tmp 125) rfl w.heap.size 0 _ rfl rfl st.out.res (by simp) record_size (by rfl) #[.int .i64 0, .int .i64 0, .int .i64 0, .int .i64 0, .int .i64 0, .int .i64 0, .int .i64 0, .int .i64 0, .string ⟨#[]⟩, .string ⟨#[]⟩, .int .i64 0, .slice none 0 0, .int .i64 0, .int .i64 0, .string ⟨#[]⟩, .bool false, .slice none 0 0] rfl ?_; intro w14 hb14 hm14; replace hb14 := Lib.hid hb14; replace hm14 := Lib.hid hm14)
        refine ret_row_tmp rfl w.heap.size rfl hb14.out Tryz.underlying37 rfl record_size (.int .i64 3) rfl rfl ?_
        exact RcPost.zero hf.out rfl ((st.out.mod).in_new (Nat.le_refl _) hm14.out)
theorem r15read_ok (w : World) (A : Option Addr) (n c : Nat) (b : List UInt8) (h : RdB w A n b) (hnc : n ≤ c) (hcm : c ≤ 9223372036854775807) : Calls Tryz.prog 6 #[.slice A n c] w (RcPost w (rdRec b)) := by
  obtain ⟨rep, e1, l1, h1⟩ := tri_ (qg 0 6 (0, b))
  obtain ⟨num, e2, l2, h2⟩ := tri_ (qg 0 10000 (e1, l1))
  obtain ⟨bal, e3, l3, h3⟩ := tri_ (qg 0 1000000 (e2, l2))
  obtain ⟨s3, e4, l4, h4⟩ := tri_ (qg 0 3 (e3, l3))
  obtain ⟨by_, e5, l5, h5⟩ := tri_ (qg 0 1000000 (e4, l4))
  by_cases hs : s3 = 0
  · exact read15_0 w A n c b h hnc hcm rep num bal s3 by_ e1 e2 e3 e4 e5 l1 l2 l3 l4 l5 h1 h2 h3 h4 h5 hs
  obtain ⟨x, ex, lx, hx⟩ := tri_ (qg 0 1 (e5, l5))
  by_cases hx1 : x = 1
  · exact read15_n w A n c b h hnc hcm rep num bal s3 by_ e1 e2 e3 e4 e5 l1 l2 l3 l4 l5 h1 h2 h3 h4 h5 hs x ex lx hx hx1
  have hx0 : x = 0 := by have := qg_in hx; omega
  obtain ⟨s, es, lsr, h8⟩ := tri_ (qt 1000 (ex, lx))
  obtain ⟨od, f, ho⟩ := duo_ (rdOrd s)
  by_cases hf : f = 0
  · exact read15_o w A n c b h hnc hcm rep num bal s3 by_ e1 e2 e3 e4 e5 l1 l2 l3 l4 l5 h1 h2 h3 h4 h5 hs x ex lx hx hx0 s es lsr h8 od f ho hf
  · exact read15_e w A n c b h hnc hcm rep num bal s3 by_ e1 e2 e3 e4 e5 l1 l2 l3 l4 l5 h1 h2 h3 h4 h5 hs x ex lx hx hx0 s es lsr h8 od f ho hf
end Go.Proofs.YtimlfdihodoolaaGreat
