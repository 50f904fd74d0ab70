import Derived.Test.YtaohgefpnndjcaaNq3
import Derived.Test.YtaohgefpnndjcaaNq5
import Derived.Shelf.Bits.Mul64
import Derived.Test.YtaohgefpnndjcaaNq4
import Derived.Sort.MapsRangeIn
import Derived.ChangeKeys
/-
  The contracts of chart's All and Copy.
-/
namespace Go.Proofs.Ytaohgefpnndjcaa
set_option linter.unusedVariables false
open Go.RowKit
def acs (C : List Ac) : List Value := C.flatMap fun a => [.string (txt a.n), .int .i64 a.h, .int .i64 a.s, .int .i64 a.l]
theorem acs_length (C : List Ac) : (acs C).length = C.length * 4 := flat_length _ 4 (fun _ => rfl) C
theorem acs_append (C D : List Ac) : acs (C ++ D) = acs C ++ acs D := by unfold acs; rw [List.flatMap_append]
theorem acs_one (C : List Ac) : ∀ u ∈ acs C, u.oneCell' = true := by
  intro u hu
  unfold acs at hu
  rw [List.mem_flatMap] at hu
  obtain ⟨a, _, ha⟩ := hu
  simp only [List.mem_cons, List.not_mem_nil, or_false] at ha
  rcases ha with rfl | rfl | rfl | rfl <;> rfl
def RdA (w : World) (A : Option Addr) (n : Nat) (C : List Ac) : Prop := Rd w 4 A n (acs C)
def OwA (w : World) (A : Option Addr) (n c : Nat) (C : List Ac) : Prop := Ow w 46 4 A n c (acs C)
theorem RdA.len {w : World} {A : Option Addr} {n : Nat} {C : List Ac} (h : RdA w A n C) : C.length = n := by have := h.1; rw [acs_length] at this; omega
theorem acinfo : (Try.prog.info? 46).map (fun i => (i.zero, i.size, i.bytes)) = some (some zeroA, 4, 40) := by kernel_rfl
theorem appA {w : World} {ops : Array Oper} {rest : List Oper} {o : Oper} {a : Act} {Q : Exit → Act → World → Prop} (hgd : o.guard = none) (s x : Operand)
    (ho : o.op = .call { callee := .builtin .append, args := #[s, x], argTypes := #[22, 22] })
    {A : Option Addr} {n c : Nat} {xs : List Ac} (hs : a.eval s = .slice A n c) (hown : OwA w A n c xs)
    {S : Option Addr} {m d : Nat} {news : List Ac} (hx : a.eval x = .slice S m d) (hr : RdA w S m news) (hb : (n + m) * 40 ≤ 140737488355328)
    (h : ∀ A' c' w', OwA w' A' (n + m) c' (xs ++ news) → Mod (fp A) w w' → (A' = A ∨ A' = some ⟨w.heap.size, 0, none⟩) → wpList Try.prog ops Q rest (a.put o.dst (.slice A' (n + m) c')) w') : wpList Try.prog ops Q (o :: rest) a w := by
  obtain ⟨i0, hi, hz0, hz1, hz2⟩ := info_parts acinfo
  refine wpList_append_ow hgd s x 22 ho 46 i0 _ 4 40 Try.underlying22 hi hz0 hz1 hz2 rfl (by omega) A n c (acs xs) hs hown S m d (acs news) hx hr (acs_one _) (by omega) (by omega) ?_
  intro A' c' w' h1
  rw [← acs_append] at h1
  exact h A' c' w' h1
theorem rda_one (w : World) (e : TypeId) (a : Ac) : RdA (w.alloc (.cells (acCells a) e)) (some ⟨w.heap.size, 0, none⟩) 1 [a] :=
  rdn w e 4 1 w.heap.size (acCells a) (0, 0) rfl rfl
theorem get_at_ {C : List Ac} (h : SortedC C) : ∀ {j : Nat} {a : Ac}, C[j]? = some a → getC C a.n = some a := by
  induction C with
  | nil => intro j a h; simp at h
  | cons y l ih =>
    intro j a hj
    obtain ⟨h1, h2⟩ := List.pairwise_cons.1 h
    cases j with
    | zero =>
      simp only [List.getElem?_cons_zero, Option.some.injEq] at hj
      subst hj
      simp [getC]
    | succ j =>
      simp only [List.getElem?_cons_succ] at hj
      have hm : a ∈ l := List.mem_of_getElem? hj
      have hne : y.n ≠ a.n := bb_ne (h1 a hm)
      have := ih h2 hj
      unfold getC at this ⊢
      rw [List.find?_cons_of_neg (by simpa using hne)]
      exact this
def AllRel (w : World) (C : List Ac) (j : Nat) (v : Value) (wr : World) : Prop := ∃ A c, v = .slice A j c ∧ OwA wr A j c (C.take j) ∧ Fresh w A ∧ Mod none_ w wr
def AllPost (C : List Ac) (w : World) (e : Ending) (w' : World) : Prop := ∃ A c, e = .returned (.slice A C.length c) ∧ OwA w' A C.length c C ∧ Fresh w A ∧ Mod none_ w w'
theorem nvs_get {l : List (List UInt8)} {k : Nat} (h : k < l.length) : (nvs l)[k]? = some (.string (txt l[k])) := by
  unfold nvs
  rw [List.getElem?_map, List.getElem?_eq_getElem h]; rfl
theorem txt_size' (l : List UInt8) : (txt l).size = l.length := by simp [txt, ByteArray.size]
theorem names_eq (C : List Ac) : (ents C).map (·.1) = C.map (·.n) := by unfold ents; rw [List.map_map]; rfl
set_option maxRecDepth 100000 in
set_option maxHeartbeats 2000000 in
theorem all_ok (w : World) (p b : Nat) (C : List Ac) (hc : ChAt w p b C) (hl : C.length ≤ 1000) (hn : ∀ a ∈ C, a.n.length ≤ 8) : Calls Try.prog 15 #[.pointer (some ⟨p, 0, none⟩)] w (AllPost C w) := by
  have hcell : w.cell? ⟨p, 0, none⟩ = some (.map (some b)) := hc.1.cell_ rfl
  have hle : (ents C).length = C.length := by unfold ents; rw [List.length_map]
  have ck := Lib.hid (keys_ok (some b) w)
  have cs := Lib.hid (sorted_ok w b (ents C) hc.2.1 (by omega))
  rw [hle] at cs
  have hp := hc.1.lt
  replace hc := Lib.hid hc
  replace hn := Lib.hid hn
  replace hle := Lib.hid hle
  go_enter Try.func15, Try.ntmps15
  go_wp2_with fail
  refine ck.out.mono ?_
  rintro e w1 ⟨rfl, rfl⟩
  dsimp only
  go_wp2_with fail
  refine cs.out.mono ?_
  rintro e w1 ⟨A, c, rfl, hr, hm⟩
  dsimp only
  replace hr := Lib.hid hr
  replace hm := Lib.hid hm
  go_wp2_with fail
  go_loopw [3, 15] (fun v x wr => ∃ j : Nat, x = .int .i64 j ∧ j ≤ C.length ∧ AllRel w1 C j v wr) (fun _ x _ => C.length - (intOf x).toNat)
  case atStart => exact ⟨0, rfl, by omega, none, 0, rfl, Ow.nil _ _ _, (fun _ h => by cases h), Mod.refl _ _⟩
  case round =>
    obtain ⟨j, rfl, hj, B, d, rfl, ho, hf, hmr⟩ := hrel
    by_cases hlt : j < C.length
    · obtain ⟨g, o, e, hcl⟩ := Rd.form (hr.out.mod0 hmr) (show 0 < C.length by omega) (by omega)
      subst e
      have hch := (hc.out.mod0 hm.out).mod0 hmr
      have hcellj := hcl j (.string (txt C[j].n)) (by
        rw [names_eq, nvs_get (by rw [List.length_map]; exact hlt), List.getElem_map])
      clear hcl
      have hpc : wr.cell? ⟨p, 0, none⟩ = some (.map (some b)) := hch.1.cell_ rfl
      have hpl := hch.1.lt
      have hget : getC C C[j].n = some C[j] := get_at_ hch.sorted (List.getElem?_eq_getElem hlt)
      have hfe := find_ents C C[j].n
      rw [hget] at hfe
      have hsz : (txt C[j].n).size ≤ maxLen := by rw [txt_size']; have := hn.out _ (List.getElem_mem hlt); unfold maxLen; omega
      have hnx : C.take j ++ [C[j]] = C.take (j+1) := by rw [List.take_succ_eq_append_getElem hlt]
      generalize C[j] = a at *
      replace ho := Lib.hid ho
      replace hf := Lib.hid hf
      replace hmr := Lib.hid hmr
      replace hch := Lib.hid hch
      replace hget := Lib.hid hget
      replace hfe := Lib.hid hfe
      replace hsz := Lib.hid hsz
      replace hnx := Lib.hid hnx
      go_wp2_with (first
        | (refine map_look _ rfl (.tmp 23) (.tmp 24) _ rfl 9 46 Try.underlying67 Try.underlying9 (zeroA_run _) b _ rfl hch.out.2.1 (txt a.n) hsz.out rfl ?_; rw [show (txt a.n).data.toList = a.n from rfl, hfe.out]; simp only [Option.map_some, Option.getD_some, acV])
        | (at_builtin; refine appA rfl (.tmp 19) (.tmp 26) rfl rfl (Ow.mod0 ho.out ((Mod.refl none_ _).alloc _)) rfl (rda_one _ _ a) (by omega) ?_; intro A' c' w' ho' hm' hA'; replace ho' := Lib.hid ho'; replace hm' := Lib.hid hm'; replace hA' := Lib.hid hA'))
      go_roundw
      case rel =>
        refine ⟨j + 1, by go_num, by omega, A', c', rfl, ?_, Fresh.app hf.out (hmr.out.alloc _).size hA'.out, (hmr.out.alloc _).app hf.out hm'.out⟩
        rw [← hnx.out]; exact ho'.out
      case measure => simp [intOf]; omega
    · have hjn : j = C.length := by omega
      subst hjn
      rw [List.take_length] at ho
      replace ho := Lib.hid ho
      replace hf := Lib.hid hf
      replace hmr := Lib.hid hmr
      go_wp2_with fail
      go_ret
      exact ⟨B, d, rfl, ho.out, hf.out.later hm.out.size, hm.out.then hmr.out (fun _ _ h => h)⟩
def CopyPost (C : List Ac) (w : World) (e : Ending) (w' : World) : Prop := ∃ p b, e = .returned (.pointer (some ⟨p, 0, none⟩)) ∧ ChAt w' p b C ∧ Mod none_ w w' ∧ w.heap.size ≤ p ∧ w.heap.size ≤ b
set_option maxRecDepth 100000 in
theorem copy_ok (w : World) (p b : Nat) (C : List Ac) (hc : ChAt w p b C) : Calls Try.prog 18 #[.pointer (some ⟨p, 0, none⟩)] w (CopyPost C w) := by
  have hcell : w.cell? ⟨p, 0, none⟩ = some (.map (some b)) := hc.1.cell_ rfl
  have hp := hc.1.lt
  have cc := Lib.hid (clone_ok w b (ents C) hc.2.1)
  replace hc := Lib.hid hc
  go_enter Try.func18, Try.ntmps18
  go_wp2_with fail
  refine cc.out.mono ?_
  rintro e w1 ⟨rfl, hM, hm, hlt⟩
  dsimp only
  replace hM := Lib.hid hM
  replace hm := Lib.hid hm
  replace hlt := Lib.hid hlt
  go_wp2_with fail
  go_ret
  refine ⟨w1.heap.size, w.heap.size, rfl, ⟨Blk.new _ _ _, hM.out.alloc _, by have := hlt.out; omega⟩, hm.out.alloc _, hm.out.size, Nat.le_refl _⟩
set_option maxRecDepth 100000 in
theorem copy_nil (w : World) : Calls Try.prog 18 #[.pointer none] w fun e w' => e = .returned (.pointer none) ∧ w = w' := by
  go_enter Try.func18, Try.ntmps18
  go_wp2_with fail
  go_ret
  exact ⟨rfl, rfl⟩
set_option maxRecDepth 100000 in
theorem all_nil (w : World) : Calls Try.prog 15 #[.pointer none] w fun e w' => e = .returned (.slice none 0 0) ∧ w = w' := by
  go_enter Try.func15, Try.ntmps15
  go_wp2_with fail
  go_ret
  exact ⟨rfl, rfl⟩
end Go.Proofs.Ytaohgefpnndjcaa
/-
  The contracts of coins.size, coins.Times, coins.Total. No condition.
-/
namespace Go.Proofs.Ytaohgefpnndjcaa
set_option linter.unusedVariables false
open Go.RowKit
theorem ret2i {x x' y y' : Int} (h1 : x = x') (h2 : y = y') : Ending.returned (.tuple #[.int .i64 x, .int .i64 y]) = .returned (.tuple #[.int .i64 x', .int .i64 y']) := by rw [h1, h2]
theorem add64_run (x y : Nat) (w : World) : (callFunc 66 #[.int .u64 (x : Int), .int .u64 (y : Int), .int .u64 0]).run Try.prog w =
    .ok (.value (.tuple #[.int .u64 (((x + y) % 18446744073709551616 : Nat) : Int), .int .u64 (((x + y) / 18446744073709551616 : Nat) : Int)])) w := by
  rw [run_callFunc_extern Try.func66 (by kernel_rfl) (by kernel_rfl) (by kernel_rfl) (e := add64Entry) (by kernel_rfl), run_add64 x y 0 (by omega) (by omega) (by omega) (by omega)]
  simp only [Result.andThen]
  congr 5 <;> omega
theorem size_val (a : Int) (ha : I64 a) : (a < 0 → IntKind.u64.wrap (-(IntKind.u64.wrap a)) = (mag a : Int)) ∧ (¬ a < 0 → IntKind.u64.wrap a = (mag a : Int)) := by
  obtain ⟨h1, h2⟩ := ha
  simp only [IntKind.wrap_u64]
  unfold mag
  constructor <;> intro h <;> omega
theorem mag_mul (a b : Int) : (a < 0 → b < 0 → a * b = ((mag a * mag b : Nat) : Int)) ∧ (a < 0 → ¬ b < 0 → a * b = -((mag a * mag b : Nat) : Int)) ∧ (¬ a < 0 → b < 0 → a * b = -((mag a * mag b : Nat) : Int)) ∧ (¬ a < 0 → ¬ b < 0 → a * b = ((mag a * mag b : Nat) : Int)) := by
  unfold mag
  rw [Int.natCast_mul]
  refine ⟨fun h1 h2 => ?_, fun h1 h2 => ?_, fun h1 h2 => ?_, fun h1 h2 => ?_⟩
  · rw [show (a.natAbs : Int) = -a by omega, show (b.natAbs : Int) = -b by omega, Int.neg_mul_neg]
  · rw [show (a.natAbs : Int) = -a by omega, show (b.natAbs : Int) = b by omega, Int.neg_mul, Int.neg_neg]
  · rw [show (a.natAbs : Int) = a by omega, show (b.natAbs : Int) = -b by omega, Int.mul_neg, Int.neg_neg]
  · rw [show (a.natAbs : Int) = a by omega, show (b.natAbs : Int) = b by omega]
set_option maxRecDepth 100000 in
theorem times_neg {P : Int} {n : Nat} (h : P = -(n : Int)) (hn : n ≤ 9223372036854775808) : sumR P = (-(n : Int), 0) := by
  rw [sumR_yes (inI_yes.2 (by omega)), h]
set_option maxRecDepth 100000 in
theorem times_pos {P : Int} {n : Nat} (h : P = (n : Int)) (hn : n < 9223372036854775808) : sumR P = ((n : Int), 0) := by
  rw [sumR_yes (inI_yes.2 (by omega)), h]
theorem times_no {P : Int} (h : ¬ (-9223372036854775808 ≤ P ∧ P ≤ 9223372036854775807)) : sumR P = (0, 2) := by
  refine sumR_no ?_
  cases hh : inI P with
  | false => rfl
  | true => exact absurd (inI_yes.1 hh) h
end Go.Proofs.Ytaohgefpnndjcaa
/-
  The contract of coins.Total. No condition.
-/
namespace Go.Proofs.Ytaohgefpnndjcaa
set_option linter.unusedVariables false
open Go.RowKit
def isum (l : List Int) : Int := l.foldl (· + ·) 0
theorem isum_acc : ∀ (l : List Int) (a : Int), l.foldl (· + ·) a = a + isum l := by
  intro l
  induction l with
  | nil => intro a; simp [isum]
  | cons x l ih => intro a; simp only [isum, List.foldl_cons]; rw [ih (a + x), ih (0 + x)]; omega
theorem isum_nil : isum [] = 0 := rfl
theorem isum_cons (x : Int) (l : List Int) : isum (x :: l) = x + isum l := by
  show (x :: l).foldl (· + ·) 0 = _
  rw [List.foldl_cons, isum_acc]; omega
theorem isum_append (a b : List Int) : isum (a ++ b) = isum a + isum b := by
  induction a with
  | nil => simp [isum_nil]
  | cons x a ih => rw [List.cons_append, isum_cons, isum_cons, ih]; omega
def I64s (l : List Int) : Prop := ∀ x ∈ l, I64 x
theorem total_in {S H : Int} {L : Nat} (h : H * 18446744073709551616 + (L : Int) = S) (hL : L < 18446744073709551616) : (H != wrap64 (L : Int) / 9223372036854775808) = !(inI S) ∧ (inI S = true → wrap64 (L : Int) = S) := by
  constructor
  · rw [Bool.eq_iff_iff]
    simp only [bne_iff_ne, ne_eq, Bool.not_eq_true', inI, Bool.and_eq_false_iff, decide_eq_false_iff_not]
    unfold wrap64
    omega
  · intro hi
    have := inI_yes.1 hi
    unfold wrap64
    omega
def TotRel (xs : List Int) (j : Nat) (hv lv : Value) : Prop := ∃ (H : Int) (L : Nat), hv = .int .i64 H ∧ lv = .int .u64 (L : Int) ∧ H * 18446744073709551616 + (L : Int) = isum (xs.take j) ∧ L < 18446744073709551616 ∧ -(j : Int) ≤ H ∧ H ≤ (j : Int)
set_option maxRecDepth 100000 in
set_option maxHeartbeats 1000000 in
theorem total_ok (w : World) (A : Option Addr) (n c : Nat) (xs : List Int) (h : RdI w A n xs) (hn : n ≤ 1000000000000) (hin : I64s xs) : Calls Try.prog 46 #[.slice A n c] w (SumPost (sumR (isum xs)) w) := by
  have hl := h.len
  replace h := Lib.hid h
  replace hl := Lib.hid hl
  replace hin := Lib.hid hin
  go_enter Try.func46, Try.ntmps46
  go_wp2_with fail
  go_loop [4, 5, 11] (fun hv lv x => ∃ j : Nat, x = .int .i64 j ∧ j ≤ n ∧ TotRel xs j hv lv) (fun _ _ x => n - (intOf x).toNat)
  case atStart => exact ⟨0, rfl, by omega, 0, 0, rfl, rfl, by simp [isum_nil], by omega, by omega, by omega⟩
  case round =>
    obtain ⟨j, rfl, hj, H, L, rfl, rfl, hs, hL, h1, h2⟩ := hrel
    by_cases hlt : j < n
    · obtain ⟨b, o, e, hc⟩ := Rd.form h.out (show 0 < n by omega) (by omega)
      subst e
      have hjl : j < xs.length := by rw [hl.out]; exact hlt
      have hcell := hc j _ (ivs_get hjl)
      clear hc
      have hx := hin.out xs[j] (List.getElem_mem hjl)
      have hnx : isum (xs.take (j + 1)) = isum (xs.take j) + xs[j] := by rw [List.take_succ_eq_append_getElem hjl, isum_append, isum_cons, isum_nil]; omega
      generalize xs[j] = x at hcell hx hnx
      obtain ⟨x1, x2⟩ := hx
      obtain ⟨u, hu⟩ : ∃ u : Nat, IntKind.u64.wrap x = (u : Int) := ⟨(IntKind.u64.wrap x).toNat, by rw [IntKind.wrap_u64]; omega⟩
      obtain ⟨sx, hsx⟩ : ∃ sx : Int, x / 9223372036854775808 = sx := ⟨_, rfl⟩
      have hsb : -1 ≤ sx ∧ sx ≤ 0 := by omega
      have hux : (u : Int) = x - sx * 18446744073709551616 := by rw [IntKind.wrap_u64] at hu; omega
      have ha := add64_run L u w
      obtain ⟨cc, ss, hq⟩ : ∃ cc ss : Nat, L + u = cc * 18446744073709551616 + ss ∧ ss < 18446744073709551616 ∧ cc ≤ 1 := ⟨(L + u) / 18446744073709551616, (L + u) % 18446744073709551616, by omega, by omega, by omega⟩
      obtain ⟨hq1, hq2, hq3⟩ := hq
      have e1 : (L + u) % 18446744073709551616 = ss := by omega
      have e2 : (L + u) / 18446744073709551616 = cc := by omega
      rw [e1, e2] at ha
      have hnext : Hid (TotRel xs (j + 1) (.int .i64 (H + (sx + (cc : Int)))) (.int .u64 (ss : Int))) := Lib.hid ⟨_, _, rfl, rfl, by rw [hnx, ← hs]; omega, by omega, by omega, by omega⟩
      obtain ⟨s1, s2⟩ := hsb
      clear e1 e2 hnx
      replace hs := Lib.hid hs
      replace hL := Lib.hid hL
      replace hq1 := Lib.hid hq1
      replace hux := Lib.hid hux
      replace hq2 := Lib.hid hq2
      clear x1 x2
      go_wp2_with fail
      refine ⟨⟨j + 1, by go_num, by omega, hnext.out⟩, ?_⟩
      simp [intOf]; omega
    · have hjn : j = n := by omega
      have hall : xs.take j = xs := List.take_of_length_le (by have := hl.out; omega)
      rw [hall] at hs
      obtain ⟨t1, t2⟩ := total_in hs hL
      clear hall hjn
      by_cases hi : inI (isum xs) = true
      · rw [hi, Bool.not_true] at t1
        have r := Lib.hid (sumR_yes hi)
        have t3 := Lib.hid (t2 hi)
        replace hi := Lib.hid hi
        replace hs := Lib.hid hs
        replace hL := Lib.hid hL
        clear t2
        go_wp2_with fail
        go_ret2
        exact ⟨by rw [r.out]; exact ret2i t3.out rfl, rfl⟩
      · have hi : inI (isum xs) = false := by simpa using hi
        rw [hi, Bool.not_false] at t1
        have r := Lib.hid (sumR_no hi)
        replace hi := Lib.hid hi
        replace hs := Lib.hid hs
        replace hL := Lib.hid hL
        clear t2
        go_wp2_with fail
        go_ret2
        exact ⟨by rw [r.out]; exact ret2i rfl rfl, rfl⟩
end Go.Proofs.Ytaohgefpnndjcaa
/-
  The contract of chart's Total: a range over the map.
-/
namespace Go.Proofs.Ytaohgefpnndjcaa
set_option linter.unusedVariables false
open Go.RowKit
open Go.Maps (Keyed string_keyed)
theorem isum_perm {a b : List Int} (h : a.Perm b) : isum a = isum b := by
  induction h with
  | nil => rfl
  | cons x _ ih => rw [isum_cons, isum_cons, ih]
  | swap x y l => rw [isum_cons, isum_cons, isum_cons, isum_cons]; omega
  | trans _ _ h1 h2 => rw [h1, h2]
/-- an iterator over a map: which names are left -/
def ItAt (w : World) (b r : Nat) (C : List Ac) (left : Lit → Bool) (cnt : Nat) : Prop := ∃ n, w.ranges Try.prog 9 VR b r n (mapD (ents C)) left cnt
theorem ItAt.mod {F : Nat → Prop} {w w' : World} {b r cnt : Nat} {C : List Ac} {left : Lit → Bool} (h : ItAt w b r C left cnt) (hm : Mod F w w') (hb : ¬ F b) (hr : ¬ F r) : ItAt w' b r C left cnt := by
  obtain ⟨n, es, clock, since, seen, c0, h1, h2, h3, h4, h5, h6⟩ := h
  have lb : b < w.heap.size := (Array.getElem?_eq_some_iff.1 h1).1
  have lr : r < w.heap.size := (Array.getElem?_eq_some_iff.1 h5).1
  exact ⟨n, es, clock, since, seen, c0, (hm.block b lb hb).trans h1, h2, h3, h4, (hm.block r lr hr).trans h5, h6⟩
def doneC (C : List Ac) (left : Lit → Bool) : List Ac := C.filter fun a => !left (.string a.n)
theorem done_all {C : List Ac} {left : Lit → Bool} (h : ∀ kl, left kl = false) : doneC C left = C := by
  unfold doneC
  rw [List.filter_eq_self]
  intro a _
  rw [h]; rfl
theorem done_none {C : List Ac} {left : Lit → Bool} (h : ∀ a ∈ C, left (.string a.n) = true) : doneC C left = [] := by
  unfold doneC
  rw [List.filter_eq_nil_iff]
  intro a ha
  rw [h a ha]; simp
theorem done_step {left : Lit → Bool} {a : Ac} (hl : left (.string a.n) = true) : ∀ {C : List Ac}, SortedC C → a ∈ C →
    (doneC C (fun z => left z && !z.sameKey (.string a.n))).Perm (a :: doneC C left)
  | [], _, h => by cases h
  | y :: l, hs, h => by
    obtain ⟨h1, h2⟩ := List.pairwise_cons.1 hs
    have same : ∀ x : Ac, (Lit.string x.n).sameKey (.string a.n) = (x.n == a.n) := fun _ => rfl
    by_cases he : y.n = a.n
    · have hya : y = a := by
        rcases List.mem_cons.1 h with h | h
        · exact h.symm
        · have := bb_ne (h1 a h); exact absurd he this
      subst hya
      have e1 : doneC (y :: l) (fun z => left z && !z.sameKey (.string y.n)) = y :: doneC l (fun z => left z && !z.sameKey (.string y.n)) := by
        unfold doneC
        rw [List.filter_cons_of_pos (by simp [same])]
      have e2 : doneC (y :: l) left = doneC l left := by
        unfold doneC
        rw [List.filter_cons_of_neg (by simp [hl])]
      have e3 : doneC l (fun z => left z && !z.sameKey (.string y.n)) = doneC l left := by
        unfold doneC
        refine List.filter_congr fun x hx => ?_
        have := (bb_ne (h1 x hx)).symm
        have hf : (x.n == y.n) = false := by simpa using this
        simp [same, hf]
      rw [e1, e2, e3]
    · have ha : a ∈ l := by
        rcases List.mem_cons.1 h with h | h
        · subst h; exact absurd rfl he
        · exact h
      have ih := done_step hl h2 ha
      have hf : (y.n == a.n) = false := by simpa using he
      by_cases hly : left (.string y.n) = true
      · have e1 : doneC (y :: l) (fun z => left z && !z.sameKey (.string a.n)) = doneC l (fun z => left z && !z.sameKey (.string a.n)) := by
          unfold doneC
          rw [List.filter_cons_of_neg (by simp [same, hf, hly])]
        have e2 : doneC (y :: l) left = doneC l left := by
          unfold doneC
          rw [List.filter_cons_of_neg (by simp [hly])]
        rw [e1, e2]; exact ih
      · have hly : left (.string y.n) = false := by simpa using hly
        have e1 : doneC (y :: l) (fun z => left z && !z.sameKey (.string a.n)) = y :: doneC l (fun z => left z && !z.sameKey (.string a.n)) := by
          unfold doneC
          rw [List.filter_cons_of_pos (by simp [hly])]
        have e2 : doneC (y :: l) left = y :: doneC l left := by
          unfold doneC
          rw [List.filter_cons_of_pos (by simp [hly])]
        rw [e1, e2]
        exact (ih.cons y).trans (List.Perm.swap a y _)
def TtRel (w : World) (b r : Nat) (C : List Ac) (v : Value) (wr : World) : Prop := ∃ A c left cnt hs, v = .slice A hs.length c ∧ OwI wr A hs.length c hs ∧ Fresh w A ∧ Mod (· = r) w wr ∧ ItAt wr b r C left cnt ∧ hs.Perm ((doneC C left).map (·.h))
def TotPost (C : List Ac) (w : World) (e : Ending) (w' : World) : Prop := e = .returned (.tuple #[.int .i64 (sumR (isum (C.map (·.h)))).1, .int .i64 ((sumR (isum (C.map (·.h)))).2 : Int)]) ∧ Mod none_ w w'
set_option maxRecDepth 100000 in
theorem tot_nil (w : World) : Calls Try.prog 19 #[.pointer none] w fun e w' => e = .returned (.tuple #[.int .i64 0, .int .i64 1]) ∧ w = w' := by
  go_enter Try.func19, Try.ntmps19
  go_wp2_with fail
  go_ret2
  exact ⟨rfl, rfl⟩
/-- the range begins -/
theorem range_it {w : World} {ops : Array Oper} {rest : List Oper} {o : Oper} {a : Act} {Q : Exit → Act → World → Prop} (hg : o.guard = none) (m : Operand) (hop : o.op = Op.range 67 m) (b : Nat) (C : List Ac) (hm : a.eval m = .map (some b))
    (h : MapAt w 9 b (ents C))
    (hK : ∀ w', ItAt w' b w.heap.size C (Maps.has (mapD (ents C))) C.length → Mod none_ w w' → w'.heap.size = w.heap.size + 1 → wpList Try.prog ops Q rest (a.put o.dst (.pointer (some ⟨w.heap.size, 0, none⟩))) w') : wpList Try.prog ops Q (o :: rest) a w := by
  refine wpList_range_own w hg m _ hop 9 46 (string_keyed Try.underlying9) Try.underlying67 VR b _ _ hm h.tight ?_
  intro w' h1 h2 h3
  have : Maps.size (mapD (ents C)) = C.length := by rw [size_mapD]; unfold ents; rw [List.length_map]
  rw [this] at h1
  exact hK w' ⟨_, h1⟩ ((Mod.of_grown h2).mono fun i hi => by cases hi) h3
/-- one step of it -/
theorem it_next {w : World} {b r cnt : Nat} {C : List Ac} {left : Lit → Bool} (h : ItAt w b r C left cnt) (ty : TypeId) :
    (cnt = 0 ∧ (∀ kl, left kl = false) ∧ (Instr.next (.pointer (some ⟨r, 0, none⟩)) false ty).run Try.prog w = .ok (.tuple #[.bool false]) w) ∨
    ∃ (x : Ac) (w' : World) (cnt' : Nat), x ∈ C ∧ left (.string x.n) = true ∧ ItAt w' b r C (fun z => left z && !z.sameKey (.string x.n)) cnt' ∧ cnt' < cnt ∧ Mod (· = r) w w' ∧
      (Instr.next (.pointer (some ⟨r, 0, none⟩)) false ty).run Try.prog w = .ok (.tuple #[.bool true, .string (txt x.n), acV x]) w' ∧
      (Instr.entry (.pointer (some ⟨r, 0, none⟩))).run Try.prog w' = .ok (.tuple #[.string (txt x.n), acV x]) w' := by
  obtain ⟨n, hr⟩ := h
  rcases hr.next (string_keyed Try.underlying9) ty with ⟨h0, hl, hrun⟩ | ⟨key, v, kl, y, w', cnt', hkey, hlk, hv, hat, hrun, hrg, hlt, hgr, hsz, hen⟩
  · exact .inl ⟨h0, hl, hrun⟩
  · right
    obtain ⟨s, rfl⟩ := Maps.keyOf_string_inv Try.underlying9 hkey
    have hkl : kl = .string s.data.toList := by
      have hk := hkey
      simp [keyOf, Try.underlying9, mapKey] at hk
      exact hk.2.symm
    subst hkl
    have hy : y = (.held v, []) := by
      unfold VR at hv; exact (Option.some.inj hv).symm
    subst hy
    have h2 : (findL (ents C) s.data.toList).getD undef = v := by
      have := hat (.held undef)
      rw [atKey_mapD] at this
      injection this
    have h3 : (findL (ents C) s.data.toList).getD (.bool true) = v := by
      have := hat (.held (.bool true))
      rw [atKey_mapD] at this
      injection this
    rw [find_ents] at h2 h3
    cases hg : getC C s.data.toList with
    | none =>
      rw [hg] at h2 h3
      simp only [Option.map_none, Option.getD_none] at h2 h3
      rw [← h2] at h3; cases h3
    | some x =>
      rw [hg] at h2
      simp only [Option.map_some, Option.getD_some] at h2
      have hn := getC_name hg
      have hsx : s = txt x.n := by rw [hn]; rfl
      subst h2
      rw [← hn] at hlk hrg
      rw [hsx] at hen hrun
      exact ⟨x, w', cnt', getC_mem hg, hlk, ⟨n, hrg⟩, hlt, (Mod.of_grown hgr).mono fun i hi => by cases hi; rfl, hrun, hen⟩
theorem rdi_one' (w : World) (e : TypeId) (g : Nat) (hg : g = w.heap.size) (x : Int) : RdI (w.alloc (.cells #[.int .i64 x] e)) (some ⟨g, 0, none⟩) 1 [x] :=
  rdn w e 1 1 g #[.int .i64 x] (0, 0) hg rfl
set_option maxRecDepth 100000 in
set_option maxHeartbeats 2000000 in
theorem tot_ok (w : World) (p b : Nat) (C : List Ac) (hc : ChAt w p b C) (hl : C.length ≤ 1000) (hw : ∀ a ∈ C, WfA a) : Calls Try.prog 19 #[.pointer (some ⟨p, 0, none⟩)] w (TotPost C w) := by
  have hcell : w.cell? ⟨p, 0, none⟩ = some (.map (some b)) := hc.1.cell_ rfl
  have hp := hc.1.lt
  have hb := hc.2.1.lt
  have hsrt := hc.sorted
  have hk0 : ∀ a ∈ C, Maps.has (mapD (ents C)) (.string a.n) = true := by
    intro a ha
    rw [has_mapD, find_ents]
    obtain ⟨j, hj, rfl⟩ := List.getElem_of_mem ha
    rw [get_at_ hsrt (List.getElem?_eq_getElem hj)]; rfl
  have hsi : I64s (C.map (·.h)) := by
    intro x hx
    obtain ⟨a, ha, rfl⟩ := List.mem_map.1 hx
    exact (hw a ha).1
  replace hc := Lib.hid hc
  replace hw := Lib.hid hw
  replace hsrt := Lib.hid hsrt
  replace hk0 := Lib.hid hk0
  replace hsi := Lib.hid hsi
  go_enter Try.func19, Try.ntmps19
  go_wp2_with (refine range_it rfl (.tmp 12) rfl b C rfl hc.out.2.1 ?_; intro w1 hit hm hsz; replace hit := Lib.hid hit; replace hm := Lib.hid hm)
  simp only [Act.put, List.setIfInBounds_toArray, List.set_cons_succ, List.set_cons_zero]
  go_loopw [4] (fun v wr => TtRel w1 b w.heap.size C v wr) (fun _ wr => wr.rangeLeft b w.heap.size)
  case atStart =>
    refine ⟨none, 0, _, _, [], rfl, Ow.nil _ _ _, (fun _ h => by cases h), Mod.refl _ _, hit.out, ?_⟩
    rw [done_none hk0.out]; exact List.Perm.refl _
  case round =>
    obtain ⟨A, c, left, cnt, hs, rfl, ho, hf, hmr, hi, hperm⟩ := hrel
    have hlen : hs.length ≤ C.length := by
      have := hperm.length_eq
      rw [List.length_map] at this
      rw [this]; exact List.length_filter_le _ _
    have hsb := hsz
    rcases it_next hi 0 with ⟨h0, hall, hrun⟩ | ⟨x, w2, cnt', hx, hlx, hi2, hcl, hm2, hrun, hen⟩
    · rw [done_all hall] at hperm
      have hsum := isum_perm hperm
      have hint : I64s hs := by
        intro y hy
        exact hsi.out y ((hperm.mem_iff).1 hy)
      have ht := Lib.hid (total_ok wr A hs.length c hs (Ow.rd ho) (by omega) hint)
      rw [hsum] at ht
      have hmw : Mod none_ w wr := hm.out.then hmr (fun i hlt he => by have : i = w.heap.size := he; omega)
      replace ho := Lib.hid ho
      replace hf := Lib.hid hf
      replace hmr := Lib.hid hmr
      replace hi := Lib.hid hi
      replace hperm := Lib.hid hperm
      replace hall := Lib.hid hall
      replace hsum := Lib.hid hsum
      replace hint := Lib.hid hint
      replace hmw := Lib.hid hmw
      generalize hL : hs.length = L at *
      replace hL := Lib.hid hL
      go_wp2_with fail
      refine ht.out.mono ?_
      rintro e w3 ⟨rfl, rfl⟩
      dsimp only
      go_wp2_with fail
      go_ret2
      exact ⟨rfl, hmw.out⟩
    · have hd := done_step hlx hsrt.out hx
      have hwx := hw.out x hx
      have oA2 : OwI w2 A hs.length c hs := Ow.mod ho hm2 (fun k hk he => by
        obtain ⟨a, ha, hab⟩ := hk
        have := hf a ha
        have : k = w.heap.size := he
        omega)
      have hmr2 : Mod (· = w.heap.size) w1 w2 := hmr.trans hm2
      have hp2 : (x.h :: hs).Perm ((doneC C (fun z => left z && !z.sameKey (.string x.n))).map (·.h)) := by
        have := (hperm.cons x.h)
        exact this.trans (List.Perm.map (fun y : Ac => y.h) hd.symm)
      have hl2 : (x.h :: hs).length ≤ C.length := by
        have := hp2.length_eq
        rw [List.length_map] at this
        rw [this]; exact List.length_filter_le _ _
      rw [List.length_cons] at hl2
      unfold acV at hrun hen
      generalize hL : hs.length = L at *
      have hm0 := hmr2.size
      replace ho := Lib.hid ho
      replace hf := Lib.hid hf
      replace hmr := Lib.hid hmr
      replace hi := Lib.hid hi
      replace hperm := Lib.hid hperm
      replace hd := Lib.hid hd
      replace hwx := Lib.hid hwx
      replace oA2 := Lib.hid oA2
      replace hmr2 := Lib.hid hmr2
      replace hp2 := Lib.hid hp2
      replace hL := Lib.hid hL
      replace hi2 := Lib.hid hi2
      replace hm2 := Lib.hid hm2
      replace hlx := Lib.hid hlx
      replace hx := Lib.hid hx
      go_wp2_with (at_builtin; go_loud (refine app64 rfl (.tmp 18) (.tmp 21) rfl rfl (Ow.mod0 oA2.out (((Mod.refl none_ _).alloc _).alloc _)) rfl (rdi_one' _ _ (w2.heap.size + 1) (by simp) _) (by omega) ?_; intro A' c' w' ho' hm' hA'; replace ho' := Lib.hid ho'; replace hm' := Lib.hid hm'; replace hA' := Lib.hid hA'))
      go_roundw
      case rel =>
        have hma := ((Mod.refl none_ w2).alloc (.cells #[.string (txt x.n), .int .i64 x.h, .int .i64 x.s, .int .i64 x.l] 46)).alloc (.cells #[.int .i64 x.h] 2)
        have hm3 : Mod (fp A) w2 w' := (hma.any _).trans hm'.out
        have hnb : ¬ fp A b := by rintro ⟨q, hq, hqb⟩; have := hf.out q hq; omega
        have hnr : ¬ fp A w.heap.size := by rintro ⟨q, hq, hqb⟩; have := hf.out q hq; omega
        have hib : ItAt w' b w.heap.size C (fun z => left z && !z.sameKey (.string x.n)) cnt' := hi2.out.mod hm3 hnb hnr
        refine ⟨A', c', _, cnt', hs ++ [x.h], ?_, ?_, ?_, ?_, hib, ?_⟩
        · rw [List.length_append, hL.out]; rfl
        · have := ho'.out; rw [List.length_append, hL.out]; exact this
        · exact Fresh.app hf.out (Nat.le_trans hm0 hma.size) hA'.out
        · exact hmr2.out.then hm3 (fun i hlt hk => by obtain ⟨q, hq, hqb⟩ := hk; have := hf.out q hq; omega)
        · exact (List.perm_append_comm (l₁ := hs) (l₂ := [x.h])).trans hp2.out
      case measure =>
        have hma := ((Mod.refl none_ w2).alloc (.cells #[.string (txt x.n), .int .i64 x.h, .int .i64 x.s, .int .i64 x.l] 46)).alloc (.cells #[.int .i64 x.h] 2)
        have hm3 : Mod (fp A) w2 w' := (hma.any _).trans hm'.out
        have hnb : ¬ fp A b := by rintro ⟨q, hq, hqb⟩; have := hf.out q hq; omega
        have hnr : ¬ fp A w.heap.size := by rintro ⟨q, hq, hqb⟩; have := hf.out q hq; omega
        have hib : ItAt w' b w.heap.size C (fun z => left z && !z.sameKey (.string x.n)) cnt' := hi2.out.mod hm3 hnb hnr
        obtain ⟨n1, e1⟩ := hib
        obtain ⟨n2, e2⟩ := hi.out
        rw [e1.left_eq, e2.left_eq]; exact hcl
end Go.Proofs.Ytaohgefpnndjcaa
