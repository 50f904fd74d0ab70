import Derived.Test.YtdekehhmjehicaaGreatQp1
import Derived.Test.YtdekehhmjehicaaGreatQp10
import Derived.Deep.MidRow
import Derived.Deep.LoopGhost
import Derived.WalkKit
import Derived.Laws.BitsAllLaws
import Derived.Laws.BitsLemmas
import Derived.Test.YtdekehhmjehicaaGreatRows
/-
  Messages in memory.
-/
namespace Go.Proofs.YtdekehhmjehicaaGreat
set_option linter.unusedVariables false
set_option linter.unusedSimpArgs false
open Go.RowKit
/-- a message, and where its lists lie -/
structure Ms where
  m : Mg
  L : SV
  D : SV
def msC (x : Ms) : List Value := [.int .i64 x.m.frm, .int .i64 x.m.to, .int .i64 x.m.kind, .int .i64 x.m.r.i.r, .int .i64 x.m.r.i.n, .int .i64 x.m.r.bal, .int .i64 x.m.r.st, .int .i64 x.m.r.by_, .int .i64 x.m.r.e.o.c, .int .i64 x.m.r.e.o.s, .int .i64 x.m.r.e.o.k, .string (txt x.m.r.e.o.acct), .string (txt x.m.r.e.o.peer), .int .i64 x.m.r.e.o.sum, .slice x.L.a x.L.n x.L.c, .int .i64 x.m.r.e.o.per, .int .i64 x.m.r.e.o.hold, .string (txt x.m.r.e.o.note), .bool x.m.r.e.none, .slice x.D.a x.D.n x.D.c]
def mss (xs : List Ms) : List Value := xs.flatMap msC
theorem mss_length (xs : List Ms) : (mss xs).length = xs.length * 20 := flat_length _ 20 (fun _ => rfl) xs
theorem mss_append (C D : List Ms) : mss (C ++ D) = mss C ++ mss D := by unfold mss; rw [List.flatMap_append]
theorem mss_one (xs : List Ms) : ∀ u ∈ mss xs, u.oneCell' = true := by
  intro u hu
  unfold mss at hu
  rw [List.mem_flatMap] at hu
  obtain ⟨a, _, ha⟩ := hu
  simp only [msC, List.mem_cons, List.not_mem_nil, or_false] at ha
  rcases ha with rfl | rfl | rfl | rfl | rfl | rfl | rfl | rfl | rfl | rfl | rfl | rfl | rfl | rfl | rfl | rfl | rfl | rfl | rfl | rfl <;> rfl
def RdM (w : World) (A : Option Addr) (n : Nat) (xs : List Ms) : Prop := Rd w 20 A n (mss xs)
def OwM (w : World) (A : Option Addr) (n c : Nat) (xs : List Ms) : Prop := Ow w 46 20 A n c (mss xs)
/-- what the lists of messages hold -/
def MsM (w : World) (xs : List Ms) : Prop := ∀ x ∈ xs, EnM w x.m.r.e x.L x.D
def zeroM : Value := .agg #[.int .i64 0, .int .i64 0, .int .i64 0, .int .i64 0, .int .i64 0, .int .i64 0, .int .i64 0, .int .i64 0, .int .i64 0, .int .i64 0, .int .i64 0, .string ⟨#[]⟩, .string ⟨#[]⟩, .int .i64 0, .slice none 0 0, .int .i64 0, .int .i64 0, .string ⟨#[]⟩, .bool false, .slice none 0 0]
theorem msinfo : (Tryz.prog.info? 46).map (fun i => (i.zero, i.size, i.bytes)) = some (some zeroM, 20, 216) := by kernel_rfl
theorem appM {w : World} {ops : Array Oper} {rest : List Oper} {o : Oper} {a : Act} {Q : Exit → Act → World → Prop} (hgd : o.guard = none) (s x : Operand)
    (ho : o.op = .call { callee := .builtin .append, args := #[s, x], argTypes := #[27, 27] })
    {A : Option Addr} {n c : Nat} {xs : List Ms} (hs : a.eval s = .slice A n c) (hown : OwM w A n c xs)
    {S : Option Addr} {m d : Nat} {news : List Ms} (hx : a.eval x = .slice S m d) (hr : RdM w S m news) (hb : (n + m) * 216 ≤ 140737488355328)
    (h : ∀ A' c' w', OwM w' A' (n + m) c' (xs ++ news) → Mod (fp A) w w' → (A' = A ∨ A' = some ⟨w.heap.size, 0, none⟩) → wpList Tryz.prog ops Q rest (a.put o.dst (.slice A' (n + m) c')) w') : wpList Tryz.prog ops Q (o :: rest) a w := by
  obtain ⟨i0, hi, hz0, hz1, hz2⟩ := info_parts msinfo
  refine wpList_append_ow hgd s x 27 ho 46 i0 _ 20 216 Tryz.underlying27 hi hz0 hz1 hz2 rfl (by omega) A n c (mss xs) hs hown S m d (mss news) hx hr (mss_one _) (by omega) (by omega) ?_
  intro A' c' w' h1
  rw [← mss_append] at h1
  exact h A' c' w' h1
end Go.Proofs.YtdekehhmjehicaaGreat
/-
  slices.Clone of messages.
-/
namespace Go.Proofs.YtdekehhmjehicaaGreat
set_option linter.unusedVariables false
set_option linter.unusedSimpArgs false
open Go.RowKit
set_option maxRecDepth 100000 in
theorem cloneM_ok (w : World) (xs : List Ms) (B : Option Addr) (n d : Nat) (h : RdM w B n xs) (hn : n ≤ 100000000) : Calls Tryz.prog 26 #[.slice B n d] w fun e w' =>
    ∃ A' c', e = .returned (.slice A' n c') ∧ OwM w' A' n c' xs ∧ Fresh w A' ∧ Mod none_ w w' := by
  obtain ⟨i0, hi, hz0, hz1, hz2⟩ := info_parts msinfo
  have hq := fun (w : World) (a : Option Addr) (n c : Nat) => Lib.run_eql_slice_nil (P := Tryz.prog) w 27 _ a n c 0 0 Tryz.underlying27
  have hlen : xs.length = n := by have := h.1; rw [mss_length] at this; omega
  rcases B with _ | a
  · have hn0 : n = 0 := by
      rcases Nat.eq_zero_or_pos n with h0 | h0
      · exact h0
      · obtain ⟨ad, h, _⟩ := h.2 h0; cases h
    subst hn0
    have hl : xs = [] := List.eq_nil_of_length_eq_zero hlen
    subst hl
    clear h hn hlen
    go_enter Tryz.func26, Tryz.ntmps26
    go_wp2
    go_ret
    exact ⟨none, 0, rfl, Ow.nil _ _ _, (fun _ h => by cases h), Mod.refl _ _⟩
  · clear hlen
    go_enter Tryz.func26, Tryz.ntmps26
    go_wp2_with (at_builtin; refine wpList_append_ow rfl (.tmp 5) (.tmp 6) 27 rfl 46 i0 _ 20 216 Tryz.underlying27 hi hz0 hz1 hz2 rfl (by omega) (some ⟨w.heap.size, 0, none⟩) 0 0 [] rfl ?_ (some a) n d (mss xs) rfl ?_ (mss_one xs) (by omega) (by omega) ?_)
    · exact Ow.new w _ 20 0 #[] (Nat.zero_le _) rfl
    · exact Rd.alloc h _
    · intro A' c' w1 hown hmod hA'
      go_wp2
      go_ret
      refine ⟨A', c', rfl, hown, ?_, ((Mod.refl none_ w).alloc (.cells #[] 46)).then hmod ?_⟩
      · rintro b hb
        rcases hA' with rfl | rfl <;> cases hb <;> simp
      · rintro k hk ⟨b, hb, rfl⟩
        cases hb
        simp at hk
end Go.Proofs.YtdekehhmjehicaaGreat
/-
  The messages that may be: Put's predicate, slices.IndexFunc with it.
-/
namespace Go.Proofs.YtdekehhmjehicaaGreat
set_option linter.unusedVariables false
set_option linter.unusedSimpArgs false
open Go.RowKit
theorem rdm_get {w : World} {A : Option Addr} {n : Nat} {xs : List Ms} (h : RdM w A n xs) {j : Nat} (hj : j < n) : ∃ b o x, A = some ⟨b, o, none⟩ ∧ x ∈ xs ∧ xs[j]? = some x ∧ w.rangeAt b (o + j * 20) (msC x) := by
  have hl : xs.length = n := by have := h.1; rw [mss_length] at this; omega
  obtain ⟨b, o, e, hc⟩ := Rd.form h (show 0 < n by omega) (by omega)
  have hjl : j < xs.length := by omega
  have hg := flat_get msC 20 (fun _ => rfl) xs j xs[j] (List.getElem?_eq_getElem hjl)
  refine ⟨b, o, xs[j], e, List.getElem_mem hjl, List.getElem?_eq_getElem hjl, fun i v hv => ?_⟩
  have hi : i < 20 := by
    rcases Nat.lt_or_ge i 20 with h1 | h1
    · exact h1
    · rw [List.getElem?_eq_none (by simpa [msC] using h1)] at hv; cases hv
  rw [Nat.add_assoc]
  exact hc (j * 20 + i) v ((hg i hi).trans hv)
/-- what of a message Right asks to be so -/
def MsOk (x : Ms) : Prop := x.L.n ≤ 140737488355328 ∧ x.D.n ≤ 140737488355328 ∧ (Lit.int .i64 x.m.r.e.o.k).wf = true ∧ ∀ l ∈ x.m.r.e.o.legs, (txt l.n).size ≤ maxLen
set_option maxRecDepth 100000 in
theorem notRight_ok (w : World) (x : Ms) (hE : EnM w x.m.r.e x.L x.D) (hk : MsOk x) :
    Calls Tryz.prog 27 #[.agg #[.int .i64 x.m.frm, .int .i64 x.m.to, .int .i64 x.m.kind, .int .i64 x.m.r.i.r, .int .i64 x.m.r.i.n, .int .i64 x.m.r.bal, .int .i64 x.m.r.st, .int .i64 x.m.r.by_, .int .i64 x.m.r.e.o.c, .int .i64 x.m.r.e.o.s, .int .i64 x.m.r.e.o.k, .string (txt x.m.r.e.o.acct), .string (txt x.m.r.e.o.peer), .int .i64 x.m.r.e.o.sum, .slice x.L.a x.L.n x.L.c, .int .i64 x.m.r.e.o.per, .int .i64 x.m.r.e.o.hold, .string (txt x.m.r.e.o.note), .bool x.m.r.e.none, .slice x.D.a x.D.n x.D.c]] w fun e w' => e = .returned (.bool (!rightM x.m)) ∧ Mod none_ w w' := by
  have hB := Lib.hid (Blk.new w 46 #[.int .i64 x.m.frm, .int .i64 x.m.to, .int .i64 x.m.kind, .int .i64 x.m.r.i.r, .int .i64 x.m.r.i.n, .int .i64 x.m.r.bal, .int .i64 x.m.r.st, .int .i64 x.m.r.by_, .int .i64 x.m.r.e.o.c, .int .i64 x.m.r.e.o.s, .int .i64 x.m.r.e.o.k, .string (txt x.m.r.e.o.acct), .string (txt x.m.r.e.o.peer), .int .i64 x.m.r.e.o.sum, .slice x.L.a x.L.n x.L.c, .int .i64 x.m.r.e.o.per, .int .i64 x.m.r.e.o.hold, .string (txt x.m.r.e.o.note), .bool x.m.r.e.none, .slice x.D.a x.D.n x.D.c])
  have kR := Lib.hid (fun W (h : Mod none_ w W) => rightM_ok W x.m x.L x.D (hE.mod0 h) hk.1 hk.2.1 hk.2.2.1 hk.2.2.2)
  have hm0 := Lib.hid ((Mod.refl none_ w).alloc (.cells #[.int .i64 x.m.frm, .int .i64 x.m.to, .int .i64 x.m.kind, .int .i64 x.m.r.i.r, .int .i64 x.m.r.i.n, .int .i64 x.m.r.bal, .int .i64 x.m.r.st, .int .i64 x.m.r.by_, .int .i64 x.m.r.e.o.c, .int .i64 x.m.r.e.o.s, .int .i64 x.m.r.e.o.k, .string (txt x.m.r.e.o.acct), .string (txt x.m.r.e.o.peer), .int .i64 x.m.r.e.o.sum, .slice x.L.a x.L.n x.L.c, .int .i64 x.m.r.e.o.per, .int .i64 x.m.r.e.o.hold, .string (txt x.m.r.e.o.note), .bool x.m.r.e.none, .slice x.D.a x.D.n x.D.c] 46))
  replace hE := Lib.hid hE
  replace hk := Lib.hid hk
  go_enter Tryz.func27, Tryz.ntmps27
  go_wp2_with (refine wpList_load_row rfl 46 (.tmp 1) rfl w.heap.size rfl _ _ _ _ hB.out Tryz.underlying46 rfl msg_size ?_)
  with_reducible refine (kR.out _ hm0.out).mono ?_
  rintro e w1 ⟨rfl, hm1⟩
  dsimp only
  have hm2 := Lib.hid (hm0.out.trans hm1)
  clear hm1
  go_wp2_with fail
  go_ret
  exact ⟨rfl, hm2.out⟩
def RtM (x : Ms) : Bool := rightM x.m
set_option maxRecDepth 100000 in
set_option maxHeartbeats 4000000 in
theorem indexM_ok (w : World) (A : Option Addr) (n c : Nat) (xs : List Ms) (h : RdM w A n xs) (hE : MsM w xs) (hk : ∀ x ∈ xs, MsOk x) (hn : n ≤ 100000000) :
    Calls Tryz.prog 45 #[.slice A n c, .func (Fn.func 27) #[] #[]] w fun e w' =>
      ((e = .returned (.int .i64 (-1)) ∧ ∀ x ∈ xs, RtM x = true) ∨ ∃ i : Nat, e = .returned (.int .i64 (i : Int)) ∧ i < n ∧ (∀ x ∈ xs.take i, RtM x = true) ∧ ∃ x, xs[i]? = some x ∧ RtM x = false) ∧ Mod none_ w w' := by
  have hl : xs.length = n := by have := h.1; rw [mss_length] at this; omega
  have kP := Lib.hid (fun W (hm : Mod none_ w W) x (hx : x ∈ xs) => notRight_ok W x ((hE x hx).mod0 hm) (hk x hx))
  replace h := Lib.hid h
  replace hE := Lib.hid hE
  replace hk := Lib.hid hk
  replace hl := Lib.hid hl
  go_enter Tryz.func45, Tryz.ntmps45
  go_wp2_with fail
  go_loopg [8] n (fun k v wr => ∃ i, v = .int .i64 (i : Nat) ∧ i + k = n ∧ (∀ x ∈ xs.take i, RtM x = true) ∧ Mod none_ w wr)
  case atStart => exact ⟨0, rfl, by omega, fun x hx => (by simp at hx), Mod.refl _ _⟩
  case round =>
    obtain ⟨i, rfl, hik, hall, hm⟩ := hrel
    by_cases hlt : i < n
    · obtain ⟨b, o, x, hA, hx, hxi, hrg⟩ := rdm_get (w := wr) (Rd.mod0 h.out hm) hlt
      subst hA
      have kx := Lib.hid (kP.out wr hm x hx)
      have htk : xs.take (i + 1) = xs.take i ++ [x] := by
        have hjl : i < xs.length := by rw [hl.out]; exact hlt
        rw [List.getElem?_eq_getElem hjl] at hxi
        injection hxi with hxi
        rw [List.take_succ_eq_append_getElem hjl, hxi]
      unfold msC at hrg
      cases hr : rightM x.m with
      | true =>
        rw [hr] at kx
        have hnx : Hid (∀ y ∈ xs.take (i + 1), RtM y = true) := Lib.hid (fun y hy => by
          rw [htk, List.mem_append] at hy
          rcases hy with hy | hy
          · exact hall y hy
          · simp at hy; subst hy; exact hr)
        replace hall := Lib.hid hall
        replace hm := Lib.hid hm
        replace hx := Lib.hid hx
        replace hxi := Lib.hid hxi
        replace htk := Lib.hid htk
        replace hr := Lib.hid hr
        replace hrg := Lib.hid hrg
        go_wp2_with (refine wpList_load_mid rfl 46 (.tmp 14) rfl b (o + i * 20) rfl _ _ hrg.out Tryz.underlying46 rfl msg_size ?_)
        with_reducible refine kx.out.mono ?_
        rintro e w1 ⟨rfl, hm1⟩
        dsimp only [Bool.not_true]
        have hm2 := Lib.hid (hm.out.trans hm1)
        clear hm1
        go_wp2_with fail
        go_roundg (gk - 1)
        case measure => omega
        case rel => exact ⟨i + 1, by go_num, by omega, hnx.out, hm2.out⟩
      | false =>
        rw [hr] at kx
        replace hall := Lib.hid hall
        replace hm := Lib.hid hm
        replace hx := Lib.hid hx
        replace hxi := Lib.hid hxi
        replace htk := Lib.hid htk
        replace hr := Lib.hid hr
        replace hrg := Lib.hid hrg
        go_wp2_with (refine wpList_load_mid rfl 46 (.tmp 14) rfl b (o + i * 20) rfl _ _ hrg.out Tryz.underlying46 rfl msg_size ?_)
        with_reducible refine kx.out.mono ?_
        rintro e w1 ⟨rfl, hm1⟩
        dsimp only [Bool.not_false]
        have hm2 := Lib.hid (hm.out.trans hm1)
        clear hm1
        go_wp2_with fail
        go_ret
        exact ⟨.inr ⟨i, rfl, by omega, hall.out, x, hxi.out, hr.out⟩, hm2.out⟩
    · obtain rfl : i = n := by omega
      rw [List.take_of_length_le (by rw [hl.out]; exact Nat.le_refl _)] at hall
      replace hall := Lib.hid hall
      replace hm := Lib.hid hm
      go_wp2_with fail
      go_ret
      exact ⟨.inl ⟨rfl, hall.out⟩, hm.out⟩
end Go.Proofs.YtdekehhmjehicaaGreat
/-
  Numbers as bytes, as a function on lists: seven bits a byte, the lowest first. No condition.
-/
namespace Go.Proofs.YtdekehhmjehicaaGreat
set_option linter.unusedVariables false
set_option linter.unusedSimpArgs false
def by_ (n : Nat) : UInt8 := UInt8.ofNat n
theorem by_toNat (n : Nat) : (by_ n).toNat = n % 256 := by simp [by_]
theorem by_eq (n : Nat) (x : UInt8) (h : n % 256 = x.toNat) : by_ n = x := UInt8.toNat_inj.1 (by rw [by_toNat, h])
def vbF : Nat → Nat → List UInt8
  | 0, _ => []
  | f + 1, m => if m < 128 then [by_ m] else by_ (m % 128 + 128) :: vbF f (m / 128)
/-- The bytes of a number without its sign. -/
def vb (m : Nat) : List UInt8 := vbF 10 m
/-- What reading tells, with i bytes read and m their bits: its error, the number, how many bytes. -/
def rdF : Nat → Nat → List UInt8 → Nat × Nat × Nat
  | _, _, [] => (4, 0, 0)
  | m, i, c :: t =>
    if i = 10 ∨ (i = 9 ∧ 1 < c.toNat) then (if t = [] ∧ 128 ≤ c.toNat ∧ i < 10 then 4 else 3, 0, 0)
    else if c.toNat < 128 ∧ c.toNat = 0 ∧ 0 < i then (3, 0, 0)
    else if c.toNat < 128 then (0, m + c.toNat * 2 ^ (7 * i), i + 1)
    else rdF (m + (c.toNat - 128) * 2 ^ (7 * i)) (i + 1) t
def rdNum (l : List UInt8) : Nat × Nat × Nat := rdF 0 0 l

/-- What is written is read. -/
theorem rdF_vbF : ∀ (f i m a : Nat) (t : List UInt8), f + i = 10 → m < 2 ^ (64 - 7 * i) → (0 < i → 0 < m) → rdF a i (vbF f m ++ t) = (0, a + m * 2 ^ (7 * i), i + (vbF f m).length) := by
  intro f
  induction f with
  | zero =>
    intro i m a t hf hm h0
    have : i = 10 := by omega
    subst this
    simp at hm
    have := h0 (by omega)
    omega
  | succ f ih =>
    intro i m a t hf hm h0
    simp only [vbF]
    by_cases h1 : m < 128
    · rw [if_pos h1]
      have e : (by_ m).toNat = m := by rw [by_toNat]; omega
      simp only [List.singleton_append, rdF, e]
      rw [if_neg (by
        rintro (h | ⟨h, h2⟩)
        · omega
        · subst h; simp at hm; omega), if_neg (by rintro ⟨_, h2, h3⟩; have := h0 h3; omega), if_pos h1]
      simp
    · rw [if_neg h1]
      have e : (by_ (m % 128 + 128)).toNat = m % 128 + 128 := by rw [by_toNat]; omega
      have hi : i < 9 := by
        rcases Nat.lt_or_ge i 9 with h | h
        · exact h
        · exfalso
          have : 64 - 7 * i ≤ 1 := by omega
          have h2 := Nat.pow_le_pow_right (n := 2) (by omega) this
          omega
      simp only [List.cons_append, rdF, e]
      rw [if_neg (by rintro (h | ⟨h, _⟩) <;> omega), if_neg (by rintro ⟨h, _⟩; omega), if_neg (by omega)]
      have hp : 2 ^ (64 - 7 * i) = 2 ^ (64 - 7 * (i + 1)) * 128 := by
        have e : 64 - 7 * i = 64 - 7 * (i + 1) + 7 := by omega
        rw [e, Nat.pow_add]
      rw [ih (i + 1) (m / 128) _ t (by omega) (by rw [hp] at hm; exact Nat.div_lt_of_lt_mul (by rw [Nat.mul_comm]; exact hm)) (fun _ => by omega)]
      have e2 : m % 128 + 128 - 128 = m % 128 := by omega
      have e3 : 2 ^ (7 * (i + 1)) = 128 * 2 ^ (7 * i) := by
        have e : 7 * (i + 1) = 7 + 7 * i := by omega
        rw [e, Nat.pow_add]
      rw [e2, e3]
      simp only [Prod.mk.injEq, true_and, List.length_cons]
      refine ⟨?_, by omega⟩
      have e4 : m % 128 + m / 128 * 128 = m := by omega
      rw [← Nat.mul_assoc, Nat.add_assoc, ← Nat.add_mul, e4]
theorem rdNum_vb (m : Nat) (t : List UInt8) (hm : m < 2 ^ 64) : rdNum (vb m ++ t) = (0, m, (vb m).length) := by
  have := rdF_vbF 10 0 m 0 t (by omega) (by simpa using hm) (by omega)
  simpa [rdNum, vb] using this
/-- Cut ahead of a number's last byte: torn. -/
theorem rdF_cut : ∀ (l : List UInt8) (i a m k j : Nat), rdF a i l = (0, m, k) → i + j < k → rdF a i (l.take j) = (4, 0, 0) := by
  intro l
  induction l with
  | nil => intro i a m k j h; simp [rdF] at h
  | cons c t ih =>
    intro i a m k j h hj
    cases j with
    | zero => rfl
    | succ j =>
      simp only [rdF, List.take_succ_cons] at h ⊢
      by_cases h1 : i = 10 ∨ (i = 9 ∧ 1 < c.toNat)
      · rw [if_pos h1] at h
        exfalso
        have := congrArg (·.1) h
        simp only at this
        split at this <;> omega
      · rw [if_neg h1] at h ⊢
        by_cases h2 : c.toNat < 128 ∧ c.toNat = 0 ∧ 0 < i
        · rw [if_pos h2] at h
          simp at h
        · rw [if_neg h2] at h ⊢
          by_cases h3 : c.toNat < 128
          · rw [if_pos h3] at h
            simp only [Prod.mk.injEq] at h
            omega
          · rw [if_neg h3] at h ⊢
            exact ih _ _ m k j h (by omega)
theorem rdNum_cut {l : List UInt8} {m k j : Nat} (h : rdNum l = (0, m, k)) (hj : j < k) : rdNum (l.take j) = (4, 0, 0) := rdF_cut l 0 0 m k j h (by omega)
/-- What is read is written so. -/
theorem rdF_once : ∀ (l : List UInt8) (i a M k : Nat), i ≤ 10 → rdF a i l = (0, M, k) → ∃ m, M = a + m * 2 ^ (7 * i) ∧ i < k ∧ k ≤ i + l.length ∧ l.take (k - i) = vbF (10 - i) m ∧ (0 < i → 0 < m) ∧ m < 2 ^ (64 - 7 * i) := by
  intro l
  induction l with
  | nil => intro i a M k _ h; simp [rdF] at h
  | cons c t ih =>
    intro i a M k hi h
    simp only [rdF] at h
    have hc := c.toNat_lt
    by_cases h1 : i = 10 ∨ (i = 9 ∧ 1 < c.toNat)
    · rw [if_pos h1] at h
      exfalso
      have := congrArg (·.1) h
      simp only at this
      split at this <;> omega
    · rw [if_neg h1] at h
      have hi9 : i ≤ 9 := by omega
      have hf : 10 - i = (9 - i) + 1 := by omega
      by_cases h2 : c.toNat < 128 ∧ c.toNat = 0 ∧ 0 < i
      · rw [if_pos h2] at h
        simp at h
      · rw [if_neg h2] at h
        by_cases h3 : c.toNat < 128
        · rw [if_pos h3] at h
          simp only [Prod.mk.injEq, true_and] at h
          obtain ⟨rfl, rfl⟩ := h
          refine ⟨c.toNat, rfl, by omega, by simp, ?_, fun h0 => by omega, ?_⟩
          · rw [hf]
            simp only [vbF]
            rw [if_pos h3, show i + 1 - i = 1 by omega]
            simp only [List.take_succ_cons, List.take_zero]
            rw [by_eq c.toNat c (by omega)]
          · by_cases h9 : i = 9
            · subst h9
              have : c.toNat < 2 := by omega
              simpa using this
            · have : 2 ^ 8 ≤ 2 ^ (64 - 7 * i) := Nat.pow_le_pow_right (by omega) (by omega)
              omega
        · rw [if_neg h3] at h
          have hi8 : i ≤ 8 := by omega
          obtain ⟨m, hM, hk, hkl, ht, hm0, hml⟩ := ih (i + 1) _ M k (by omega) h
          have hmp := hm0 (by omega)
          refine ⟨(c.toNat - 128) + m * 128, ?_, by omega, by simp only [List.length_cons]; omega, ?_, fun _ => by omega, ?_⟩
          · rw [hM]
            have e : 7 * (i + 1) = 7 + 7 * i := by omega
            rw [e, Nat.pow_add, ← Nat.mul_assoc, Nat.add_assoc, ← Nat.add_mul]
          · rw [hf]
            simp only [vbF]
            rw [if_neg (by omega), show k - i = (k - (i + 1)) + 1 by omega, List.take_succ_cons, ht]
            rw [by_eq _ c (by omega), show (c.toNat - 128 + m * 128) / 128 = m by omega, show 10 - (i + 1) = 9 - i by omega]
          · have e : 64 - 7 * i = 64 - 7 * (i + 1) + 7 := by omega
            rw [e, Nat.pow_add]
            have := Nat.mul_le_mul_right 128 (show m + 1 ≤ 2 ^ (64 - 7 * (i + 1)) from hml)
            omega
theorem rdNum_once {l : List UInt8} {m k : Nat} (h : rdNum l = (0, m, k)) : 0 < k ∧ k ≤ l.length ∧ l.take k = vb m ∧ m < 18446744073709551616 := by
  obtain ⟨m', hM, h1, h2, h3, _, h5⟩ := rdF_once l 0 0 m k (by omega) h
  have e : m = m' := by simpa using hM
  subst e
  exact ⟨h1, by omega, by simpa [vb] using h3, by simpa using h5⟩
end Go.Proofs.YtdekehhmjehicaaGreat
/-
  The bit operations of Go on unsigned numbers, as operations on natural numbers. No condition.
-/
namespace Go.Proofs.YtdekehhmjehicaaGreat
set_option linter.unusedVariables false
set_option linter.unusedSimpArgs false
theorem ofInt_nat (n a : Nat) (ha : a < 2 ^ n) : (BitVec.ofInt n (a : Int)).toNat = a := by
  rw [BitVec.ofInt_natCast, BitVec.toNat_ofNat]; exact Nat.mod_eq_of_lt ha
theorem bx8 (a b : Nat) (ha : a < 256) (hb : b < 256) : bits .xor .u8 (a : Int) (b : Int) = ((a ^^^ b : Nat) : Int) := by
  have hx : a ^^^ b < 2 ^ 8 := Nat.xor_lt_two_pow (by omega) (by omega)
  show IntKind.u8.wrap ((BitVec.ofInt 8 (a : Int) ^^^ BitVec.ofInt 8 (b : Int)).toNat : Int) = _
  rw [BitVec.toNat_xor, ofInt_nat 8 a (by omega), ofInt_nat 8 b (by omega), IntKind.wrap_u8]
  omega
theorem bx32 (a b : Nat) (ha : a < 4294967296) (hb : b < 4294967296) : bits .xor .u32 (a : Int) (b : Int) = ((a ^^^ b : Nat) : Int) := by
  have hx : a ^^^ b < 2 ^ 32 := Nat.xor_lt_two_pow (by omega) (by omega)
  show IntKind.u32.wrap ((BitVec.ofInt 32 (a : Int) ^^^ BitVec.ofInt 32 (b : Int)).toNat : Int) = _
  rw [BitVec.toNat_xor, ofInt_nat 32 a (by omega), ofInt_nat 32 b (by omega), IntKind.wrap_u32]
  omega
theorem ba32 (a b : Nat) (ha : a < 4294967296) (hb : b < 4294967296) : bits .and .u32 (a : Int) (b : Int) = ((a &&& b : Nat) : Int) := by
  have hx : a &&& b < 2 ^ 32 := Nat.and_lt_two_pow _ (by omega)
  show IntKind.u32.wrap ((BitVec.ofInt 32 (a : Int) &&& BitVec.ofInt 32 (b : Int)).toNat : Int) = _
  rw [BitVec.toNat_and, ofInt_nat 32 a (by omega), ofInt_nat 32 b (by omega), IntKind.wrap_u32]
  omega
theorem bo32 (a b : Nat) (ha : a < 4294967296) (hb : b < 4294967296) : bits .or .u32 (a : Int) (b : Int) = ((a ||| b : Nat) : Int) := by
  have hx : a ||| b < 2 ^ 32 := Nat.or_lt_two_pow (by omega) (by omega)
  show IntKind.u32.wrap ((BitVec.ofInt 32 (a : Int) ||| BitVec.ofInt 32 (b : Int)).toNat : Int) = _
  rw [BitVec.toNat_or, ofInt_nat 32 a (by omega), ofInt_nat 32 b (by omega), IntKind.wrap_u32]
  omega
theorem bo_i64 (a b : Nat) (ha : a < 9223372036854775808) (hb : b < 9223372036854775808) : bits .or .i64 (a : Int) (b : Int) = ((a ||| b : Nat) : Int) := by
  have hx : a ||| b < 2 ^ 63 := Nat.or_lt_two_pow (by omega) (by omega)
  show IntKind.i64.wrap ((BitVec.ofInt 64 (a : Int) ||| BitVec.ofInt 64 (b : Int)).toNat : Int) = _
  rw [BitVec.toNat_or, ofInt_nat 64 a (by omega), ofInt_nat 64 b (by omega), IntKind.wrap_i64]
  omega
/-- Two numbers that share no bit. -/
theorem or_add (a b k : Nat) (hb : b < 2 ^ k) : (a * 2 ^ k) ||| b = a * 2 ^ k + b := by
  rw [Nat.mul_comm]; exact (Nat.two_pow_add_eq_or_of_lt hb a).symm
end Go.Proofs.YtdekehhmjehicaaGreat
/-
  Numbers without their sign. No condition.
-/
namespace Go.Proofs.YtdekehhmjehicaaGreat
set_option linter.unusedVariables false
set_option linter.unusedSimpArgs false
open Go.RowKit
def zig (n : Int) : Nat := if 0 ≤ n then (2 * n).toNat else (-2 * n - 1).toNat
def unzig (m : Nat) : Int := if m % 2 = 0 then (m / 2 : Nat) else -((m / 2 : Nat) : Int) - 1
theorem unzig_zig (n : Int) : unzig (zig n) = n := by
  unfold unzig zig
  by_cases h : 0 ≤ n
  · rw [if_pos h, if_pos (by omega)]; omega
  · rw [if_neg h, if_neg (by omega)]; omega
theorem zig_unzig (m : Nat) : zig (unzig m) = m := by
  unfold unzig zig
  by_cases h : m % 2 = 0
  · rw [if_pos h, if_pos (by omega)]; omega
  · rw [if_neg h, if_neg (by omega)]; omega
theorem zig_lt {n : Int} (h1 : -9223372036854775808 ≤ n) (h2 : n ≤ 9223372036854775807) : zig n < 18446744073709551616 := by
  unfold zig; split <;> omega
theorem unzig_in {m : Nat} (h : m < 18446744073709551616) : -9223372036854775808 ≤ unzig m ∧ unzig m ≤ 9223372036854775807 := by
  unfold unzig; split <;> omega

theorem bx64 (a b : Nat) (ha : a < 18446744073709551616) (hb : b < 18446744073709551616) : bits .xor .u64 (a : Int) (b : Int) = ((a ^^^ b : Nat) : Int) := by
  have hx : a ^^^ b < 2 ^ 64 := Nat.xor_lt_two_pow (by omega) (by omega)
  show IntKind.u64.wrap ((BitVec.ofInt 64 (a : Int) ^^^ BitVec.ofInt 64 (b : Int)).toNat : Int) = _
  rw [BitVec.toNat_xor, ofInt_nat 64 a (by omega), ofInt_nat 64 b (by omega), IntKind.wrap_u64]
  omega
theorem not64 (q : Nat) (hq : q < 18446744073709551616) : q ^^^ 18446744073709551615 = 18446744073709551615 - q := by
  have h := BitVec.toNat_not (x := BitVec.ofNat 64 q)
  rw [BitVec.not_def, BitVec.toNat_xor, BitVec.toNat_ofNat, Nat.mod_eq_of_lt (by omega : q < 2 ^ 64)] at h
  have e : (BitVec.allOnes 64).toNat = 18446744073709551615 := by decide
  rw [e, Nat.xor_comm] at h
  exact h
theorem fold_bits (n : Int) (h1 : -9223372036854775808 ≤ n) (h2 : n ≤ 9223372036854775807) : bits .xor .u64 (IntKind.u64.wrap (IntKind.u64.wrap n * 2)) (IntKind.u64.wrap (n / 9223372036854775808)) = (zig n : Int) := by
  by_cases h : 0 ≤ n
  · have e1 : IntKind.u64.wrap (IntKind.u64.wrap n * 2) = (((2 * n).toNat : Nat) : Int) := by simp only [IntKind.wrap_u64]; omega
    have e2 : IntKind.u64.wrap (n / 9223372036854775808) = ((0 : Nat) : Int) := by simp only [IntKind.wrap_u64]; omega
    rw [e1, e2, bx64 _ _ (by omega) (by omega), Nat.xor_zero, zig, if_pos h]
  · have e1 : IntKind.u64.wrap (IntKind.u64.wrap n * 2) = (((2 * n + 18446744073709551616).toNat : Nat) : Int) := by simp only [IntKind.wrap_u64]; omega
    have e2 : IntKind.u64.wrap (n / 9223372036854775808) = ((18446744073709551615 : Nat) : Int) := by simp only [IntKind.wrap_u64]; omega
    rw [e1, e2, bx64 _ _ (by omega) (by omega), not64 _ (by omega), zig, if_neg h]
    omega
theorem and_one (m : Nat) (h : m < 18446744073709551616) : bits .and .u64 (m : Int) 1 = ((m % 2 : Nat) : Int) := by
  have e : m &&& 1 = m % 2 := Nat.and_one_is_mod m
  show IntKind.u64.wrap ((BitVec.ofInt 64 (m : Int) &&& BitVec.ofInt 64 ((1 : Nat) : Int)).toNat : Int) = _
  rw [BitVec.toNat_and, ofInt_nat 64 m (by omega), ofInt_nat 64 1 (by omega), e, IntKind.wrap_u64]
  omega
theorem unfold_bits (m : Nat) (h : m < 18446744073709551616) : bits .xor .i64 ((m : Int) / 2) (wrap64 (-wrap64 (bits .and .u64 (m : Int) 1))) = unzig m := by
  rw [and_one m h]
  have e0 : ((m : Int) / 2) = ((m / 2 : Nat) : Int) := by omega
  rw [e0, unzig]
  by_cases h2 : m % 2 = 0
  · rw [if_pos h2, h2, show wrap64 (-wrap64 ((0 : Nat) : Int)) = ((0 : Nat) : Int) by kernel_rfl]
    show IntKind.i64.wrap ((BitVec.ofInt 64 ((m / 2 : Nat) : Int) ^^^ BitVec.ofInt 64 ((0 : Nat) : Int)).toNat : Int) = _
    rw [BitVec.toNat_xor, ofInt_nat 64 (m / 2) (by omega), ofInt_nat 64 0 (by omega), Nat.xor_zero, IntKind.wrap_i64]
    omega
  · rw [if_neg h2, show m % 2 = 1 by omega, show wrap64 (-wrap64 ((1 : Nat) : Int)) = (-1 : Int) by kernel_rfl]
    show IntKind.i64.wrap ((BitVec.ofInt 64 ((m / 2 : Nat) : Int) ^^^ BitVec.ofInt 64 (-1 : Int)).toNat : Int) = _
    rw [BitVec.toNat_xor, ofInt_nat 64 (m / 2) (by omega), show (BitVec.ofInt 64 (-1)).toNat = 18446744073709551615 by decide, not64 _ (by omega), IntKind.wrap_i64]
    omega

theorem fold_ok (w : World) (n : Int) (h1 : -9223372036854775808 ≤ n) (h2 : n ≤ 9223372036854775807) : Calls Tryz.prog 65 #[.int .i64 n] w fun e w' => e = .returned (.int .u64 (zig n : Nat)) ∧ w = w' := by
  have H := Lib.hid (fold_bits n h1 h2)
  go_enter Tryz.func65, Tryz.ntmps65
  go_wp2
  go_ret
  refine ⟨?_, rfl⟩
  rw [← H.out]
  rfl
theorem unfold_ok (w : World) (m : Nat) (h1 : m < 18446744073709551616) : Calls Tryz.prog 76 #[.int .u64 (m : Int)] w fun e w' => e = .returned (.int .i64 (unzig m)) ∧ w = w' := by
  have H := Lib.hid (unfold_bits m h1)
  go_enter Tryz.func76, Tryz.ntmps76
  go_wp2
  go_ret
  refine ⟨?_, rfl⟩
  rw [← H.out]
  rfl
end Go.Proofs.YtdekehhmjehicaaGreat
