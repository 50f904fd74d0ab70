import Derived.Test.YtimlfdihodoolaaGreatZp13
import Derived.Test.YtimlfdihodoolaaGreatZp26
import Derived.Test.YtimlfdihodoolaaGreatZp1
import Derived.ProofKit
import Derived.OpenShut
import Derived.ChangeOld
import Derived.SizedLaws
import Derived.Deep.Slices
import Derived.Deep.Fields
import Derived.Test.YtimlfdihodoolaaGreatZp10
import Derived.Lib.SmallJoins
import Derived.ShutString
/-
  LogReads: for every input the law returns true. No condition.
-/
namespace Go.Proofs.YtimlfdihodoolaaGreat
set_option linter.unusedVariables false
set_option linter.unusedSimpArgs false
open Go.RowKit
theorem rdRec_any {b : List UInt8} {x : Rc} {f : Nat} (h : rdRec b = (x, f)) {w : World} {L D : SV} (hE : EnM w x.e L D) : RsOk ⟨x, L, D⟩ ∧ numsE x.e := by
  obtain ⟨v1, v2⟩ := rdRec_in h
  obtain ⟨v3, v4, v5⟩ := od_facts v1
  obtain ⟨u1, u2, _, _⟩ := od_facts2 v1
  have hl := hE.od.rd.len
  have hd := hE.rd.len
  exact ⟨⟨by dsimp only; omega, by dsimp only; omega, v4, v5⟩, u1, u2⟩
theorem RsL.one1 {w : World} {A : Option Addr} {x : Rs} (h : RdR w A 1 [x]) (hE : EnM w x.r.e x.L x.D) (hk : RsOk x) (hn : numsE x.r.e) : RsL w A 1 [x] :=
  ⟨h, fun y hy => by simp at hy; subst hy; exact hE, fun y hy => by simp at hy; subst hy; exact hk, fun y hy => by simp at hy; subst hy; exact hn⟩
theorem scanR_few : ∀ fs : List (List UInt8), (scanR fs).1.length ≤ fs.length
  | [] => by simp [scanR]
  | f :: fs => by
    unfold scanR
    split
    · have := scanR_few fs
      simp only [List.length_cons]; omega
    · simp
theorem logScan_few (l : List UInt8) : (logScan l).1.length ≤ l.length := Nat.le_trans (scanR_few _) (scan_le l).1
set_option maxRecDepth 100000 in
set_option maxHeartbeats 8000000 in
theorem logReads_walk (w : World) (A' : Option Addr) (n' c' : Nat) (b : List UInt8) (hb : RdB w A' n' b) (hn' : n' ≤ 140737488355328) (hc' : n' ≤ c') (hcm : c' ≤ 9223372036854775807) :
    Calls Tryz.prog 3 #[.slice A' n' c'] w fun e w' => e = .returned (.bool true) ∧ Mod none_ w w' := by
  have kL := Lib.hid (lives_ok w)
  have hlb := Lib.hid hb.len
  obtain ⟨k, hkk⟩ : ∃ k, k = min n' 3000 := ⟨_, rfl⟩
  have hk1 : min (n' : Int) 3000 = (k : Int) := by omega
  have hk2 : (k : Int) ≤ (c' : Int) := by omega
  have hk3 : k ≤ n' := by omega
  have hk4 : k ≤ 3000 := by omega
  have hk5 : k ≤ c' := by omega
  have hrb := Lib.hid (rdb_take hb hk3)
  have hbl := Lib.hid (hrb.out.len)
  generalize b.take k = T at *
  replace hkk := Lib.hid hkk
  clear hb hlb
  go_enter Tryz.func3, Tryz.ntmps3
  go_wp2_with fail
  refine kL.out.mono ?_
  rintro e w1 ⟨rfl, hm1⟩
  dsimp only
  have kR := Lib.hid (logRead_ok w1 A' k c' T (Rd.mod0 hrb.out hm1) (by omega))
  obtain ⟨mm, f, hmf⟩ := duo_ (rdRec T)
  rw [hmf] at kR
  replace hm1 := Lib.hid hm1
  replace hmf := Lib.hid hmf
  clear kL
  go_wp2_with fail
  with_reducible refine kR.out.mono ?_
  rintro e w2 ⟨m4, f4, L1, D1, he, rfl, hE1, _, _, hm2⟩
  simp only [Prod.mk.injEq] at he
  obtain ⟨rfl, rfl⟩ := he
  dsimp only
  have hz2 := Lib.hid (Blk.new w2 37 #[.int .i64 0, .int .i64 0, .int .i64 0, .int .i64 0, .int .i64 0, .int .i64 0, .int .i64 0, .int .i64 0, .string ⟨#[]⟩, .string ⟨#[]⟩, .int .i64 0, .slice none 0 0, .int .i64 0, .int .i64 0, .string ⟨#[]⟩, .bool false, .slice none 0 0])
  have hM2 := Lib.hid (hm1.out.trans hm2)
  clear kR hm2 hm1
  replace hE1 := Lib.hid hE1
  go_wp2_with (refine wpList_store_blk rfl 37 (.tmp 3) (.tmp 21) rfl w2.heap.size 0 _ rfl rfl hz2.out (by simp) rc_size (by rfl) #[.int .i64 mm.i.r, .int .i64 mm.i.n, .int .i64 mm.bal, .int .i64 mm.st, .int .i64 mm.by_, .int .i64 mm.e.o.c, .int .i64 mm.e.o.s, .int .i64 mm.e.o.k, .string (txt mm.e.o.acct), .string (txt mm.e.o.peer), .int .i64 mm.e.o.sum, .slice L1.a L1.n L1.c, .int .i64 mm.e.o.per, .int .i64 mm.e.o.hold, .string (txt mm.e.o.note), .bool mm.e.none, .slice D1.a D1.n D1.c] rfl ?_; intro w3 hb3 hm3; have hm3' := Lib.hid (((Mod.refl none_ w2).alloc (.cells #[.int .i64 0, .int .i64 0, .int .i64 0, .int .i64 0, .int .i64 0, .int .i64 0, .int .i64 0, .int .i64 0, .string ⟨#[]⟩, .string ⟨#[]⟩, .int .i64 0, .slice none 0 0, .int .i64 0, .int .i64 0, .string ⟨#[]⟩, .bool false, .slice none 0 0] 37)).in_new (Nat.le_refl _) hm3); replace hb3 := Lib.hid hb3; clear hm3)
  have hM3 := Lib.hid (hM2.out.trans hm3'.out)
  have kR := Lib.hid (r15read_ok w3 A' k c' T (Rd.mod0 hrb.out hM3.out) hk5 hcm)
  rw [hmf.out] at kR
  replace hE1 := Lib.hid (hE1.out.mod0 hm3'.out)
  clear hM2 hm3' hz2
  with_reducible refine kR.out.mono ?_
  rintro e w4 ⟨m4, f4, L2, D2, he, rfl, hE2, _, _, hm4⟩
  simp only [Prod.mk.injEq] at he
  obtain ⟨rfl, rfl⟩ := he
  dsimp only
  have hz4 := Lib.hid (Blk.new w4 37 #[.int .i64 0, .int .i64 0, .int .i64 0, .int .i64 0, .int .i64 0, .int .i64 0, .int .i64 0, .int .i64 0, .string ⟨#[]⟩, .string ⟨#[]⟩, .int .i64 0, .slice none 0 0, .int .i64 0, .int .i64 0, .string ⟨#[]⟩, .bool false, .slice none 0 0])
  have hM4 := Lib.hid (hM3.out.trans hm4)
  replace hE1 := Lib.hid (hE1.out.mod0 hm4)
  replace hb3 := Lib.hid (hb3.out.mod hm4 (fun h => h))
  have hlt3 := Lib.hid hb3.out.lt
  clear kR hm4 hM3
  replace hE2 := Lib.hid hE2
  go_wp2_with (refine wpList_store_blk rfl 37 (.tmp 5) (.tmp 26) rfl w4.heap.size 0 _ rfl rfl hz4.out (by simp) rc_size (by rfl) #[.int .i64 mm.i.r, .int .i64 mm.i.n, .int .i64 mm.bal, .int .i64 mm.st, .int .i64 mm.by_, .int .i64 mm.e.o.c, .int .i64 mm.e.o.s, .int .i64 mm.e.o.k, .string (txt mm.e.o.acct), .string (txt mm.e.o.peer), .int .i64 mm.e.o.sum, .slice L2.a L2.n L2.c, .int .i64 mm.e.o.per, .int .i64 mm.e.o.hold, .string (txt mm.e.o.note), .bool mm.e.none, .slice D2.a D2.n D2.c] rfl ?_; intro w5 hb5 hm5; have hm5' := Lib.hid (((Mod.refl none_ w4).alloc (.cells #[.int .i64 0, .int .i64 0, .int .i64 0, .int .i64 0, .int .i64 0, .int .i64 0, .int .i64 0, .int .i64 0, .string ⟨#[]⟩, .string ⟨#[]⟩, .int .i64 0, .slice none 0 0, .int .i64 0, .int .i64 0, .string ⟨#[]⟩, .bool false, .slice none 0 0] 37)).in_new (Nat.le_refl _) hm5); replace hb3 := Lib.hid ((hb3.out.alloc (.cells #[.int .i64 0, .int .i64 0, .int .i64 0, .int .i64 0, .int .i64 0, .int .i64 0, .int .i64 0, .int .i64 0, .string ⟨#[]⟩, .string ⟨#[]⟩, .int .i64 0, .slice none 0 0, .int .i64 0, .int .i64 0, .string ⟨#[]⟩, .bool false, .slice none 0 0] 37)).mod hm5 (fun hh => by have : w2.heap.size = w4.heap.size := hh; have := hlt3.out; omega)); replace hb5 := Lib.hid hb5; clear hm5)
  have hM5 := Lib.hid (hM4.out.trans hm5'.out)
  have kS := Lib.hid (logScan_ok w5 A' k c' T (Rd.mod0 hrb.out hM5.out) hk5 hcm (by omega))
  replace hE1 := Lib.hid (hE1.out.mod0 hm5'.out)
  replace hE2 := Lib.hid (hE2.out.mod0 hm5'.out)
  clear hM4 hm5' hz4 hlt3
  with_reducible refine kS.out.mono ?_
  rintro e w6 ⟨A6, n6, c6, xs, rfl, hN6, hx6, hm6⟩
  dsimp only
  have hM6 := Lib.hid (hM5.out.trans hm6)
  have kS := Lib.hid (r15scan_ok w6 A' k c' T (Rd.mod0 hrb.out hM6.out) hk5 hcm (by omega))
  replace hE1 := Lib.hid (hE1.out.mod0 hm6)
  replace hE2 := Lib.hid (hE2.out.mod0 hm6)
  replace hb3 := Lib.hid (hb3.out.mod hm6 (fun h => h))
  replace hb5 := Lib.hid (hb5.out.mod hm6 (fun h => h))
  clear hm6 hM5
  generalize hsn : (logScan T).2 = sn at *
  replace hN6 := Lib.hid hN6
  replace hx6 := Lib.hid hx6
  replace hsn := Lib.hid hsn
  go_wp2_with fail
  with_reducible refine kS.out.mono ?_
  rintro e w7 ⟨A7, n7, c7, ys, rfl, hN7, hx7, hm7⟩
  dsimp only
  have hM7 := Lib.hid (hM6.out.trans hm7)
  rw [hsn.out]
  replace hE1 := Lib.hid (hE1.out.mod0 hm7)
  replace hE2 := Lib.hid (hE2.out.mod0 hm7)
  replace hb3 := Lib.hid (hb3.out.mod hm7 (fun h => h))
  replace hb5 := Lib.hid (hb5.out.mod hm7 (fun h => h))
  have hN6' := Lib.hid (hN6.out.mod0 hm7)
  obtain ⟨k1, k1'⟩ := rdRec_any hmf.out hE1.out
  obtain ⟨k2, k2'⟩ := rdRec_any hmf.out hE2.out
  have ma1 := (Mod.refl none_ w7).alloc (.cells #[.int .i64 mm.i.r, .int .i64 mm.i.n, .int .i64 mm.bal, .int .i64 mm.st, .int .i64 mm.by_, .int .i64 mm.e.o.c, .int .i64 mm.e.o.s, .int .i64 mm.e.o.k, .string (txt mm.e.o.acct), .string (txt mm.e.o.peer), .int .i64 mm.e.o.sum, .slice L1.a L1.n L1.c, .int .i64 mm.e.o.per, .int .i64 mm.e.o.hold, .string (txt mm.e.o.note), .bool mm.e.none, .slice D1.a D1.n D1.c] 37)
  have ma2 := ma1.alloc (.cells #[.int .i64 mm.i.r, .int .i64 mm.i.n, .int .i64 mm.bal, .int .i64 mm.st, .int .i64 mm.by_, .int .i64 mm.e.o.c, .int .i64 mm.e.o.s, .int .i64 mm.e.o.k, .string (txt mm.e.o.acct), .string (txt mm.e.o.peer), .int .i64 mm.e.o.sum, .slice L2.a L2.n L2.c, .int .i64 mm.e.o.per, .int .i64 mm.e.o.hold, .string (txt mm.e.o.note), .bool mm.e.none, .slice D2.a D2.n D2.c] 37)
  have hb5' := Lib.hid (hb5.out.alloc (.cells #[.int .i64 mm.i.r, .int .i64 mm.i.n, .int .i64 mm.bal, .int .i64 mm.st, .int .i64 mm.by_, .int .i64 mm.e.o.c, .int .i64 mm.e.o.s, .int .i64 mm.e.o.k, .string (txt mm.e.o.acct), .string (txt mm.e.o.peer), .int .i64 mm.e.o.sum, .slice L1.a L1.n L1.c, .int .i64 mm.e.o.per, .int .i64 mm.e.o.hold, .string (txt mm.e.o.note), .bool mm.e.none, .slice D1.a D1.n D1.c] 37))
  have kE := Lib.hid (same15_eq _ _ _ 1 1 1 1 [⟨mm, L1, D1⟩] [⟨mm, L2, D2⟩] (RsL.one1 (Rd.mod0 (rdR_one w7 ⟨mm, L1, D1⟩) ((Mod.refl none_ _).alloc (.cells #[.int .i64 mm.i.r, .int .i64 mm.i.n, .int .i64 mm.bal, .int .i64 mm.st, .int .i64 mm.by_, .int .i64 mm.e.o.c, .int .i64 mm.e.o.s, .int .i64 mm.e.o.k, .string (txt mm.e.o.acct), .string (txt mm.e.o.peer), .int .i64 mm.e.o.sum, .slice L2.a L2.n L2.c, .int .i64 mm.e.o.per, .int .i64 mm.e.o.hold, .string (txt mm.e.o.note), .bool mm.e.none, .slice D2.a D2.n D2.c] 37))) (hE1.out.mod0 ma2) k1 k1') (RsL.one1 (rdR_one (w7.alloc (.cells #[.int .i64 mm.i.r, .int .i64 mm.i.n, .int .i64 mm.bal, .int .i64 mm.st, .int .i64 mm.by_, .int .i64 mm.e.o.c, .int .i64 mm.e.o.s, .int .i64 mm.e.o.k, .string (txt mm.e.o.acct), .string (txt mm.e.o.peer), .int .i64 mm.e.o.sum, .slice L1.a L1.n L1.c, .int .i64 mm.e.o.per, .int .i64 mm.e.o.hold, .string (txt mm.e.o.note), .bool mm.e.none, .slice D1.a D1.n D1.c] 37)) ⟨mm, L2, D2⟩) (hE2.out.mod0 ma2) k2 k2') rfl (by omega))
  have kF := Lib.hid (fun W (hM : Mod none_ w7 W) => same15_eq W A6 A7 n6 n7 c6 c7 xs ys (hN6'.out.mod0 hM).list (hN7.mod0 hM).list (by rw [hx6.out, hx7]) (by have h1 := hN6'.out.len; have h2 := logScan_few T; have h3 := congrArg List.length hx6.out; rw [List.length_map] at h3; have := hbl.out; omega))
  have hma2 := Lib.hid ma2
  clear hm7 hM6 kS ma1 ma2 hN7 hx7 hN6 hx6 hE1 hE2 k1 k1' k2 k2' hN6'
  go_wp2_with (first
    | (refine wpList_step (fun K hK => ?_); rw [if_pos (by rfl)]; refine wp_load_row 37 (.tmp 3) rfl w2.heap.size rfl _ _ _ _ hb3.out Tryz.underlying37 rfl rc_size ?_; refine hK _ _ ?_)
    | (refine wpList_step (fun K hK => ?_); rw [if_pos (by rfl)]; refine wp_load_row 37 (.tmp 5) rfl w4.heap.size rfl _ _ _ _ hb5'.out Tryz.underlying37 rfl rc_size ?_; refine hK _ _ ?_))
  have kE2 := kE.out
  simp only [World.size_alloc] at kE2
  with_reducible refine kE2.mono ?_
  rintro e w8 ⟨rfl, hm8⟩
  dsimp only
  have hM8 := Lib.hid (hma2.out.trans hm8)
  clear kE kE2 hm8
  go_wp2_with fail
  with_reducible refine (kF.out _ hM8.out).mono ?_
  rintro e w9 ⟨rfl, hm9⟩
  dsimp only
  replace hm9 := Lib.hid hm9
  go_wp2_with fail
  go_ret
  exact ⟨rfl, hM7.out.trans (hM8.out.trans hm9.out)⟩
end Go.Proofs.YtimlfdihodoolaaGreat
/-
  Opening an argument's reading: what lies in memory where a slice of numbers, of bytes, of structs came in. No condition.
-/
namespace Go.Proofs.YtimlfdihodoolaaGreat
set_option linter.unusedVariables false
set_option linter.unusedSimpArgs false
open Go.RowKit Go.ChangeShapes Go.WideShapes Go.Deep

theorem list_choice {α : Type} (p : Nat → α → Prop) : ∀ n, (∀ i, i < n → ∃ e, p i e) → ∃ es : List α, es.length = n ∧ ∀ i e, es[i]? = some e → p i e := by
  intro n
  induction n with
  | zero => intro _; exact ⟨[], rfl, fun i e h => by simp at h⟩
  | succ n ih =>
    intro h
    obtain ⟨es, hl, he⟩ := ih fun i hi => h i (by omega)
    obtain ⟨x, hx⟩ := h n (by omega)
    refine ⟨es ++ [x], by simp [hl], fun i e hi => ?_⟩
    by_cases hin : i < es.length
    · rw [List.getElem?_append_left hin] at hi
      exact he i e hi
    · rw [List.getElem?_append_right (by omega)] at hi
      have : i = es.length := by
        rcases Nat.lt_or_ge (i - es.length) 1 with h1 | h1
        · omega
        · rw [List.getElem?_eq_none (by simpa using h1)] at hi; cases hi
      subst this
      simp at hi
      subst hi
      rw [hl]; exact hx

theorem flat_range' {α : Type} (f : α → List Value) (css : Nat → List Value) : ∀ (es : List α) (s : Nat), (∀ i e, es[i]? = some e → css (s + i) = f e) → (List.range' s es.length).flatMap css = es.flatMap f := by
  intro es
  induction es with
  | nil => intro _ _; rfl
  | cons x es ih =>
    intro s h
    rw [List.length_cons, List.range'_succ, List.flatMap_cons, List.flatMap_cons, ih (s + 1) fun i e hi => by
      have := h (i + 1) e (by simpa using hi)
      rw [← this]; congr 1; omega]
    rw [← h 0 x (by simp)]
    rfl
theorem flat_range {α : Type} (f : α → List Value) (css : Nat → List Value) (es : List α) (h : ∀ i e, es[i]? = some e → css i = f e) : (List.range es.length).flatMap css = es.flatMap f := by
  rw [List.range_eq_range']
  exact flat_range' f css es 0 fun i e hi => by rw [Nat.zero_add]; exact h i e hi

section
variable {H : Type} {enc : TypeId × Value → H} {P : Program} {w : World} {held : Bool}

/-- What the form's own reach says of a datum. -/
def Wd (P : Program) (t : TypeId) (d : DataW H) : Prop := ∀ n ∈ d.weights P t, n ≤ 140737488351232
theorem wd_arg {ts : List TypeId} {ds : List (DataW H)} (h : (DataW.weightsEach P ts ds).all (· ≤ reachBytes) = true) {j : Nat} {t : TypeId} {d : DataW H} (ht : ts[j]? = some t) (hd : ds[j]? = some d) : Wd P t d := by
  intro n hn
  have := List.all_eq_true.1 h _ (DataW.weights_mem_each ht hd n hn)
  have e : reachBytes = 140737488351232 := by decide
  simpa [e] using this
theorem wd_each {ts : List TypeId} {ds : List (DataW H)} (h : ∀ n ∈ DataW.weightsEach P ts ds, n ≤ 140737488351232) {j : Nat} {t : TypeId} {d : DataW H} (ht : ts[j]? = some t) (hd : ds[j]? = some d) : Wd P t d :=
  fun n hn => h n (DataW.weights_mem_each ht hd n hn)
theorem weights_mem_all {e : TypeId} : ∀ {l : List (DataW H)} {d : DataW H}, d ∈ l → ∀ n ∈ d.weights P e, n ∈ DataW.weightsAll P e l := by
  intro l
  induction l with
  | nil => intro d h; cases h
  | cons x l ih =>
    intro d h n hn
    simp only [DataW.weightsAll, List.mem_append]
    rcases List.mem_cons.1 h with rfl | h
    · exact .inl hn
    · exact .inr (ih h n hn)
theorem wd_slice {t e : TypeId} {elems spare : List (DataW H)} (hu : P.underlying t = some (.slice e)) (h : Wd P t (.slice elems spare)) :
    (elems.length + spare.length) * P.bytesOf e ≤ 140737488351232 ∧ (∀ d ∈ elems, Wd P e d) := by
  refine ⟨h _ (by simp [DataW.weights, hu]), fun d hd n hn => h n ?_⟩
  simp only [DataW.weights, hu, List.mem_cons, List.mem_append]
  exact .inr (.inl (weights_mem_all hd n hn))
theorem wd_struct {t : TypeId} {fs : Array Field} {parts : List (DataW H)} (hu : P.underlying t = some (.struct fs)) (h : Wd P t (.agg parts)) {j : Nat} {f : Field} {d : DataW H} (hf : fs[j]? = some f) (hd : parts[j]? = some d) : Wd P f.type d := by
  refine wd_each (ts := fs.toList.map (·.type)) (ds := parts) (fun n hn => h n ?_) (j := j) (by simp [hf]) hd
  simp only [DataW.weights, hu]
  exact hn

/-- What is known of a slice that came in: its cells, its bounds, where it lies. -/
def Came (w : World) (size bytes : Nat) (A : Option Addr) (n c : Nat) (xs : List Value) : Prop :=
  Rd w size A n xs ∧ n ≤ c ∧ c ≤ 9223372036854775807 ∧ c * bytes ≤ 140737488351232 ∧ (0 < n → ∀ k, fp A k → k < w.heap.size)

/-- A slice of whatever elements. -/
theorem open_any {t e : TypeId} {fuel k : Nat} {cs : List Value} {x : DataW H × List MemPlace} (ht : P.underlying t = some (.slice e)) (hk : P.cellsOf e = k) (hk0 : 0 < k)
    (h : DataW.trod enc P w 0 (fun _ => true) held fuel t cs = some x) (hw : Wd P t x.1) :
    ∃ (A : Option Addr) (n c : Nat) (css : Nat → List Value) (D : Nat → DataW H), cs = [.slice A n c] ∧ Came w k (P.bytesOf e) A n c ((List.range n).flatMap css) ∧
      ∀ i, i < n → (css i).length = k ∧ Wd P e (D i) ∧ ∃ m pl, DataW.trod enc P w 0 (fun _ => true) held m e (css i) = some (D i, pl) := by
  rcases open_slice ht h with ⟨rfl, rfl⟩ | ⟨a, len, cap, m, n, D, Pl, rfl, hb, hl, hm, hmm, rfl, hi⟩
  · exact ⟨none, 0, 0, fun _ => [], fun _ => .nil, rfl, ⟨Rd.none_, Nat.le_refl _, by omega, by omega, fun h => absurd h (by omega)⟩, fun i hi => absurd hi (by omega)⟩
  · simp only [if_true] at hmm
    subst hmm
    have hw2 := wd_slice ht hw
    simp only [List.length_map, List.length_range] at hw2
    have hch : ∀ i, i < m → ∃ cs', w.cells? 0 (a.add (i * P.cellsOf e)) (P.cellsOf e) = some cs' ∧ DataW.trod enc P w 0 (fun _ => true) held n e cs' = some (D i, Pl i) := hi
    obtain ⟨cl, hcl, hcp⟩ := list_choice _ m hch
    have hget : ∀ i, i < m → ∃ cs', cl[i]? = some cs' := fun i hi => ⟨_, List.getElem?_eq_getElem (by omega)⟩
    have hcell : ∀ i, i < m → ∀ cs', cl[i]? = some cs' → cs'.length = k ∧ ∀ j u, cs'[j]? = some u → w.cell? (a.add (i * k + j)) = some u := by
      intro i hi cs' hc
      obtain ⟨h1, _⟩ := hcp i cs' hc
      obtain ⟨_, hlen, hat⟩ := World.cells?_some h1
      rw [hk] at hlen hat
      refine ⟨hlen, fun j u hu => ?_⟩
      have hj : j < k := by
        rcases Nat.lt_or_ge j cs'.length with h2 | h2
        · omega
        · rw [List.getElem?_eq_none h2] at hu; cases hu
      rw [← add_of_add, hat j hj, hu]
    refine ⟨some a, len, m, fun i => (cl[i]?).getD [], D, rfl, ⟨⟨?_, fun _ => ⟨a, rfl, ?_⟩⟩, hl, by simpa [maxLen] using hm, ?_, ?_⟩, ?_⟩
    · have : ∀ q, q ≤ m → ((List.range q).flatMap fun i => (cl[i]?).getD []).length = q * k := by
        intro q
        induction q with
        | zero => intro _; simp
        | succ q ih =>
          intro hq
          obtain ⟨cs', hc⟩ := hget q (by omega)
          rw [List.range_succ, List.flatMap_append, List.length_append, ih (by omega), List.flatMap_singleton, hc, Option.getD_some, (hcell q (by omega) cs' hc).1, Nat.succ_mul]
      exact this len hl
    · have hlq : ∀ q, q ≤ m → ((List.range q).flatMap fun i => (cl[i]?).getD []).length = q * k := by
        intro q
        induction q with
        | zero => intro _; simp
        | succ q ih =>
          intro hq
          obtain ⟨cs', hc⟩ := hget q (by omega)
          rw [List.range_succ, List.flatMap_append, List.length_append, ih (by omega), List.flatMap_singleton, hc, Option.getD_some, (hcell q (by omega) cs' hc).1, Nat.succ_mul]
      have : ∀ q, q ≤ m → ∀ j u, ((List.range q).flatMap fun i => (cl[i]?).getD [])[j]? = some u → w.cell? (a.add j) = some u := by
        intro q
        induction q with
        | zero => intro _ j u hu; simp at hu
        | succ q ih =>
          intro hq j u hu
          obtain ⟨cs', hc⟩ := hget q (by omega)
          have hlen := hlq q (by omega)
          rw [List.range_succ, List.flatMap_append, List.flatMap_singleton, hc, Option.getD_some] at hu
          rcases Nat.lt_or_ge j (q * k) with hj | hj
          · rw [List.getElem?_append_left (by omega)] at hu
            exact ih (by omega) j u hu
          · rw [List.getElem?_append_right (by omega), hlen] at hu
            have := (hcell q (by omega) cs' hc).2 _ u hu
            rwa [show q * k + (j - q * k) = j by omega] at this
      exact this len hl
    · have := hw2.1
      rwa [show len + (m - len) = m by omega] at this
    · rintro h0 b ⟨a', ha', rfl⟩
      cases ha'
      obtain ⟨cs', hc⟩ := hget 0 (by omega)
      obtain ⟨h1, h2⟩ := hcell 0 (by omega) cs' hc
      obtain ⟨u, hu⟩ : ∃ u, cs'[0]? = some u := ⟨_, List.getElem?_eq_getElem (by omega)⟩
      have := h2 0 u hu
      rw [Nat.zero_mul, Nat.zero_add, add_zero_] at this
      exact World.block_lt_of_cell? w _ this
    · intro i hi
      obtain ⟨cs', hc⟩ := hget i (by omega)
      simp only [hc, Option.getD_some]
      refine ⟨(hcell i (by omega) cs' hc).1, ?_, n, Pl i, (hcp i cs' hc).2⟩
      apply hw2.2
      simp only [List.mem_map, List.mem_range]
      exact ⟨i, hi, rfl⟩

/-- A slice of integers. -/
theorem open_nums {t e : TypeId} {kk : IntKind} {fuel : Nat} {cs : List Value} {x : DataW H × List MemPlace} (ht : P.underlying t = some (.slice e)) (he : P.underlying e = some (.int kk)) (hk : P.cellsOf e = 1)
    (h : DataW.trod enc P w 0 (fun _ => true) held fuel t cs = some x) (hw : Wd P t x.1) :
    ∃ (A : Option Addr) (n c : Nat) (zs : List Int), cs = [.slice A n c] ∧ Came w 1 (P.bytesOf e) A n c (zs.map (.int kk ·)) ∧ ∀ z ∈ zs, (Lit.int kk z).wf = true := by
  obtain ⟨A, n, c, css, D, rfl, hc, hi⟩ := open_any ht hk (by omega) h hw
  have hch : ∀ i, i < n → ∃ z : Int, css i = [.int kk z] ∧ (Lit.int kk z).wf = true := by
    intro i hin
    obtain ⟨_, _, m, pl, htr⟩ := hi i hin
    obtain ⟨z, hz, _, hwf⟩ := DataW.trod_int he htr
    exact ⟨z, hz, hwf⟩
  obtain ⟨zs, hl, hz⟩ := list_choice _ n hch
  refine ⟨A, n, c, zs, rfl, ?_, ?_⟩
  · have e1 : (List.range n).flatMap css = zs.map (.int kk ·) := by
      rw [← hl, flat_range (fun z => [Value.int kk z]) css zs fun i e hie => (hz i e hie).1]
      clear hz hl
      induction zs with
      | nil => rfl
      | cons z zs ih => simp [List.flatMap_cons, ih]
    rwa [e1] at hc
  · intro z hm
    obtain ⟨i, hi1, hi2⟩ := List.getElem_of_mem hm
    exact (hz i z (by rw [List.getElem?_eq_getElem hi1, hi2])).2

/-- Bytes. -/
theorem open_bytes {t e : TypeId} {fuel : Nat} {cs : List Value} {x : DataW H × List MemPlace} (ht : P.underlying t = some (.slice e)) (he : P.underlying e = some (.int .u8)) (hk : P.cellsOf e = 1)
    (h : DataW.trod enc P w 0 (fun _ => true) held fuel t cs = some x) (hw : Wd P t x.1) :
    ∃ (A : Option Addr) (n c : Nat) (l : List UInt8), cs = [.slice A n c] ∧ Came w 1 (P.bytesOf e) A n c (bvs l) := by
  obtain ⟨A, n, c, zs, rfl, hc, hz⟩ := open_nums ht he hk h hw
  refine ⟨A, n, c, zs.map fun z => UInt8.ofNat z.toNat, rfl, ?_⟩
  have e1 : bvs (zs.map fun z => UInt8.ofNat z.toNat) = zs.map (.int .u8 ·) := by
    simp only [bvs, List.map_map]
    apply List.map_congr_left
    intro z hm
    have hb : 0 ≤ z ∧ z ≤ 255 := by simpa [Lit.wf, IntKind.min, IntKind.max, IntKind.signed, IntKind.bits] using hz z hm
    have : ((UInt8.ofNat z.toNat).toNat : Int) = z := by
      rw [UInt8.toNat_ofNat']
      omega
    simp only [Function.comp, bv, this]
  rwa [e1]

/-- A struct of one-cell fields. -/
theorem open_fields {t : TypeId} {fs : Array Field} {fuel : Nat} {cs : List Value} {x : DataW H × List MemPlace} (he : P.underlying t = some (.struct fs)) (hone : oneCellFields P fs = true) (hC : P.cellsOf t = fs.size)
    (h : DataW.trod enc P w 0 (fun _ => true) held fuel t cs = some x) (hw : Wd P t x.1) :
    cs.length = fs.size ∧ ∀ (j : Nat) (f : Field), fs[j]? = some f → ∃ (v : Value) (m : Nat) (y : DataW H × List MemPlace), cs[j]? = some v ∧ DataW.trod enc P w 0 (fun _ => true) held m f.type [v] = some y ∧ Wd P f.type y.1 := by
  obtain ⟨ys, n', _, rfl, hlen, hyl, hf⟩ := DataW.trod_struct he h
  refine ⟨by rw [hlen, hC], fun j f hj => ?_⟩
  obtain ⟨ho, hk⟩ := hone_of hone j f hj
  have hjl : j < fs.size := (Array.getElem?_eq_some_iff.1 hj).1
  have hv : cs[j]? = some (cs[j]'(by omega)) := List.getElem?_eq_getElem (by omega)
  have h1 := hf j f hj
  rw [ho, hk] at h1
  have hone' : (cs.drop j).take 1 = [cs[j]'(by omega)] := by
    rw [List.drop_eq_getElem_cons (by omega)]
    rfl
  rw [hone'] at h1
  have hys : ys[j]? = some (ys[j]'(by omega)) := List.getElem?_eq_getElem (by omega)
  refine ⟨_, n', _, hv, h1.trans hys, wd_struct he hw hj ?_⟩
  rw [List.getElem?_map, hys]
  rfl
end
end Go.Proofs.YtimlfdihodoolaaGreat
/-
  How lists of records read as arguments.
-/
namespace Go.Proofs.YtimlfdihodoolaaGreat
set_option linter.unusedVariables false
set_option linter.unusedSimpArgs false
open Go.ChangeShapes Go.WideShapes Go.ChangeAt Go.RowKit Go.Deep
section
variable {P : Program} {H : Type} {enc : TypeId × Value → H} {w : World} {held : Bool}
theorem open_part {t : TypeId} {fs : Array Field} {fuel : Nat} {cs : List Value} {x : DataW H × List MemPlace} (he : P.underlying t = some (.struct fs))
    (h : DataW.trod enc P w 0 (fun _ => true) held fuel t cs = some x) (hw : Wd P t x.1) (j : Nat) (f : Field) (hj : fs[j]? = some f) :
    ∃ (m : Nat) (y : DataW H × List MemPlace), DataW.trod enc P w 0 (fun _ => true) held m f.type ((cs.drop f.offset).take (P.cellsOf f.type)) = some y ∧ Wd P f.type y.1 := by
  obtain ⟨ys, n', _, rfl, hlen, hyl, hf⟩ := DataW.trod_struct he h
  have hjl : j < fs.size := (Array.getElem?_eq_some_iff.1 hj).1
  have hys : ys[j]? = some (ys[j]'(by omega)) := List.getElem?_eq_getElem (by omega)
  have h1 := hf j f hj
  rw [hys] at h1
  exact ⟨n', _, h1, wd_struct he hw hj (by rw [List.getElem?_map, hys] <;> rfl)⟩
end
theorem one_at {l : List Value} {o : Nat} {v : Value} (h : (l.drop o).take 1 = [v]) : l[o]? = some v := by
  have := congrArg (·[0]?) h
  simpa [List.getElem?_take, List.getElem?_drop] using this
theorem sub_at {l : List Value} {a k o : Nat} {v : Value} (h : ((l.drop a).take k)[o]? = some v) : l[a + o]? = some v := by
  rw [List.getElem?_take] at h
  split at h
  · rwa [List.getElem?_drop] at h
  · cases h
theorem in64_wf {x : Int} (h : (Lit.int .i64 x).wf = true) : in64 x := by
  have : IntKind.i64.min ≤ x ∧ x ≤ IntKind.i64.max := by
    have h' : (decide (IntKind.i64.min ≤ x) && decide (x ≤ IntKind.i64.max)) = true := h
    simpa using h'
  have h1 : IntKind.i64.min = -9223372036854775808 := by decide
  have h2 : IntKind.i64.max = 9223372036854775807 := by decide
  rw [h1, h2] at this
  exact this
set_option maxRecDepth 100000 in
theorem open_legsM {H : Type} {enc : TypeId × Value → H} {w : World} {held : Bool} {fuel : Nat} {cs : List Value} {x : DataW H × List MemPlace}
    (h : DataW.trod enc Tryz.prog w 0 (fun _ => true) held fuel 28 cs = some x) (hw : Wd Tryz.prog 28 x.1) :
    ∃ (A : Option Addr) (n c : Nat) (os : List Lg), cs = [.slice A n c] ∧ RdL w A n os ∧ n ≤ c ∧ n ≤ 140737488351232 ∧ (∀ o ∈ os, ((txt o.n).size ≤ maxLen ∧ in64 o.x)) := by
  obtain ⟨A, n, c, css, D, rfl, hc, hi⟩ := open_any Tryz.underlying28 (by kernel_rfl : Tryz.prog.cellsOf 96 = 2) (by omega) h hw
  have hch : ∀ i, i < n → ∃ o : Lg, css i = [.string (txt o.n), .int .i64 o.x] ∧ ((txt o.n).size ≤ maxLen ∧ in64 o.x) := by
    intro i hin
    obtain ⟨hlen, hwd, m, pl, htr⟩ := hi i hin
    obtain ⟨h3, hf⟩ := open_fields Tryz.underlying96 (by kernel_rfl) (by kernel_rfl) htr hwd
    obtain ⟨v0, m0, y0, c0, t0, _⟩ := hf 0 _ rfl
    obtain ⟨v1, m1, y1, c1, t1, _⟩ := hf 1 _ rfl
    obtain ⟨s, e0, _, w0⟩ := DataW.trod_string Tryz.underlying9 t0
    obtain ⟨x1, e1, _, w1⟩ := DataW.trod_int Tryz.underlying2 t1
    simp only [List.cons.injEq, and_true] at e0 e1
    subst e0 e1
    refine ⟨⟨s.data.toList, x1⟩, ?_, w0, in64_wf w1⟩
    generalize css i = l at *
    match l, hlen, c0, c1 with
    | [a, b], _, c0, c1 =>
      simp at c0 c1
      subst c0 c1; rfl
  obtain ⟨os, hl, hz⟩ := list_choice _ n hch
  have e1 : (List.range n).flatMap css = lgs os := by
    unfold lgs
    rw [← hl, flat_range (fun o : Lg => [.string (txt o.n), .int .i64 o.x]) css os fun i e hie => (hz i e hie).1]
  rw [e1] at hc
  refine ⟨A, n, c, os, rfl, hc.1, hc.2.1, ?_, fun o ho => ?_⟩
  · have h4 := hc.2.2.2.1
    have h2 := hc.2.1
    have hb : 1 ≤ Tryz.prog.bytesOf 96 := by
      have : Tryz.prog.bytesOf 96 = 24 := by kernel_rfl
      omega
    have := Nat.mul_le_mul_left c hb
    omega
  · obtain ⟨i, hi1, hi2⟩ := List.getElem_of_mem ho
    exact (hz i o (by rw [List.getElem?_eq_getElem hi1, hi2])).2
set_option maxRecDepth 100000 in
theorem open_depsM {H : Type} {enc : TypeId × Value → H} {w : World} {held : Bool} {fuel : Nat} {cs : List Value} {x : DataW H × List MemPlace}
    (h : DataW.trod enc Tryz.prog w 0 (fun _ => true) held fuel 31 cs = some x) (hw : Wd Tryz.prog 31 x.1) :
    ∃ (A : Option Addr) (n c : Nat) (os : List Is), cs = [.slice A n c] ∧ RdP w A n os ∧ n ≤ c ∧ n ≤ 140737488351232 ∧ (∀ o ∈ os, (in64 o.r ∧ in64 o.n)) := by
  obtain ⟨A, n, c, css, D, rfl, hc, hi⟩ := open_any Tryz.underlying31 (by kernel_rfl : Tryz.prog.cellsOf 25 = 2) (by omega) h hw
  have hch : ∀ i, i < n → ∃ o : Is, css i = [.int .i64 o.r, .int .i64 o.n] ∧ (in64 o.r ∧ in64 o.n) := by
    intro i hin
    obtain ⟨hlen, hwd, m, pl, htr⟩ := hi i hin
    obtain ⟨h3, hf⟩ := open_fields Tryz.underlying25 (by kernel_rfl) (by kernel_rfl) htr hwd
    obtain ⟨v0, m0, y0, c0, t0, _⟩ := hf 0 _ rfl
    obtain ⟨v1, m1, y1, c1, t1, _⟩ := hf 1 _ rfl
    obtain ⟨x0, e0, _, w0⟩ := DataW.trod_int Tryz.underlying3 t0
    obtain ⟨x1, e1, _, w1⟩ := DataW.trod_int Tryz.underlying3 t1
    simp only [List.cons.injEq, and_true] at e0 e1
    subst e0 e1
    refine ⟨⟨x0, x1⟩, ?_, in64_wf w0, in64_wf w1⟩
    generalize css i = l at *
    match l, hlen, c0, c1 with
    | [a, b], _, c0, c1 =>
      simp at c0 c1
      subst c0 c1; rfl
  obtain ⟨os, hl, hz⟩ := list_choice _ n hch
  have e1 : (List.range n).flatMap css = iss os := by
    unfold iss
    rw [← hl, flat_range (fun o : Is => [.int .i64 o.r, .int .i64 o.n]) css os fun i e hie => (hz i e hie).1]
  rw [e1] at hc
  refine ⟨A, n, c, os, rfl, hc.1, hc.2.1, ?_, fun o ho => ?_⟩
  · have h4 := hc.2.2.2.1
    have h2 := hc.2.1
    have hb : 1 ≤ Tryz.prog.bytesOf 25 := by
      have : Tryz.prog.bytesOf 25 = 16 := by kernel_rfl
      omega
    have := Nat.mul_le_mul_left c hb
    omega
  · obtain ⟨i, hi1, hi2⟩ := List.getElem_of_mem ho
    exact (hz i o (by rw [List.getElem?_eq_getElem hi1, hi2])).2
theorem trod_cut {H : Type} {P : Program} {enc : TypeId × Value → H} {w : World} {held : Bool} {t : TypeId} {m o' k' o k : Nat} {cs : List Value} {y : DataW H × List MemPlace} (h : DataW.trod enc P w 0 (fun _ => true) held m t ((cs.drop o').take k') = some y) (ho : o' = o) (hk : k' = k) :
    DataW.trod enc P w 0 (fun _ => true) held m t ((cs.drop o).take k) = some y := by subst ho hk; exact h
def RsGood (w : World) (x : Rs) : Prop := EnM w x.r.e x.L x.D ∧ RsOk x ∧ numsE x.r.e ∧ inI x.r.i ∧ (txt x.r.e.o.acct).size ≤ maxLen ∧ (txt x.r.e.o.peer).size ≤ maxLen
set_option maxRecDepth 100000 in
set_option maxHeartbeats 4000000 in
theorem open_rec {H : Type} {enc : TypeId × Value → H} {w : World} {held : Bool} {fuel : Nat} {cs : List Value} {x : DataW H × List MemPlace}
    (h : DataW.trod enc Tryz.prog w 0 (fun _ => true) held fuel 37 cs = some x) (hw : Wd Tryz.prog 37 x.1) (hl : cs.length = 17) :
    ∃ m : Rs, cs = rsC m ∧ RsGood w m := by
  obtain ⟨min, yin, tin, win⟩ := open_part Tryz.underlying37 h hw 0 _ rfl
  replace tin := trod_cut tin (o := 0) (k := 2) (by kernel_rfl) (by kernel_rfl)
  obtain ⟨mir, yir, tir, wir⟩ := open_part Tryz.underlying25 tin win 0 _ rfl
  replace tir := trod_cut tir (o := 0) (k := 1) (by kernel_rfl) (by kernel_rfl)
  obtain ⟨xir, eir, _, fir⟩ := DataW.trod_int Tryz.underlying3 tir
  obtain ⟨mii, yii, tii, wii⟩ := open_part Tryz.underlying25 tin win 1 _ rfl
  replace tii := trod_cut tii (o := 1) (k := 1) (by kernel_rfl) (by kernel_rfl)
  obtain ⟨xii, eii, _, fii⟩ := DataW.trod_int Tryz.underlying3 tii
  obtain ⟨msl, ysl, tsl, wsl⟩ := open_part Tryz.underlying37 h hw 1 _ rfl
  replace tsl := trod_cut tsl (o := 2) (k := 15) (by kernel_rfl) (by kernel_rfl)
  obtain ⟨mbl, ybl, tbl, wbl⟩ := open_part Tryz.underlying35 tsl wsl 0 _ rfl
  replace tbl := trod_cut tbl (o := 0) (k := 1) (by kernel_rfl) (by kernel_rfl)
  obtain ⟨xbl, ebl, _, fbl⟩ := DataW.trod_int Tryz.underlying3 tbl
  obtain ⟨mst, yst, tst, wst⟩ := open_part Tryz.underlying35 tsl wsl 1 _ rfl
  replace tst := trod_cut tst (o := 1) (k := 1) (by kernel_rfl) (by kernel_rfl)
  obtain ⟨xst, est, _, fst⟩ := DataW.trod_int Tryz.underlying3 tst
  obtain ⟨mby, yby, tby, wby⟩ := open_part Tryz.underlying35 tsl wsl 2 _ rfl
  replace tby := trod_cut tby (o := 2) (k := 1) (by kernel_rfl) (by kernel_rfl)
  obtain ⟨xby, eby, _, fby⟩ := DataW.trod_int Tryz.underlying3 tby
  obtain ⟨men, yen, ten, wen⟩ := open_part Tryz.underlying35 tsl wsl 3 _ rfl
  replace ten := trod_cut ten (o := 3) (k := 12) (by kernel_rfl) (by kernel_rfl)
  obtain ⟨mod, yod, tod, wod⟩ := open_part Tryz.underlying33 ten wen 0 _ rfl
  replace tod := trod_cut tod (o := 0) (k := 10) (by kernel_rfl) (by kernel_rfl)
  obtain ⟨mid, yid, tid, wid⟩ := open_part Tryz.underlying30 tod wod 0 _ rfl
  replace tid := trod_cut tid (o := 0) (k := 2) (by kernel_rfl) (by kernel_rfl)
  obtain ⟨mic, yic, tic, wic⟩ := open_part Tryz.underlying27 tid wid 0 _ rfl
  replace tic := trod_cut tic (o := 0) (k := 1) (by kernel_rfl) (by kernel_rfl)
  obtain ⟨xic, eic, _, fic⟩ := DataW.trod_int Tryz.underlying3 tic
  obtain ⟨mis, yis, tis, wis⟩ := open_part Tryz.underlying27 tid wid 1 _ rfl
  replace tis := trod_cut tis (o := 1) (k := 1) (by kernel_rfl) (by kernel_rfl)
  obtain ⟨xis, eis, _, fis⟩ := DataW.trod_int Tryz.underlying3 tis
  obtain ⟨mok, yok, tok, wok⟩ := open_part Tryz.underlying30 tod wod 1 _ rfl
  replace tok := trod_cut tok (o := 2) (k := 1) (by kernel_rfl) (by kernel_rfl)
  obtain ⟨xok, eok, _, fok⟩ := DataW.trod_int Tryz.underlying3 tok
  obtain ⟨mac, yac, tac, wac⟩ := open_part Tryz.underlying30 tod wod 2 _ rfl
  replace tac := trod_cut tac (o := 3) (k := 1) (by kernel_rfl) (by kernel_rfl)
  obtain ⟨xac, eac, _, fac⟩ := DataW.trod_string Tryz.underlying9 tac
  obtain ⟨mpe, ype, tpe, wpe⟩ := open_part Tryz.underlying30 tod wod 3 _ rfl
  replace tpe := trod_cut tpe (o := 4) (k := 1) (by kernel_rfl) (by kernel_rfl)
  obtain ⟨xpe, epe, _, fpe⟩ := DataW.trod_string Tryz.underlying9 tpe
  obtain ⟨msu, ysu, tsu, wsu⟩ := open_part Tryz.underlying30 tod wod 4 _ rfl
  replace tsu := trod_cut tsu (o := 5) (k := 1) (by kernel_rfl) (by kernel_rfl)
  obtain ⟨xsu, esu, _, fsu⟩ := DataW.trod_int Tryz.underlying2 tsu
  obtain ⟨mlg, ylg, tlg, wlg⟩ := open_part Tryz.underlying30 tod wod 5 _ rfl
  replace tlg := trod_cut tlg (o := 6) (k := 1) (by kernel_rfl) (by kernel_rfl)
  obtain ⟨LA, Ln, Lc, xlg, elg, rL, cL, bL, oL⟩ := open_legsM tlg wlg
  obtain ⟨mpr, ypr, tpr, wpr⟩ := open_part Tryz.underlying30 tod wod 6 _ rfl
  replace tpr := trod_cut tpr (o := 7) (k := 1) (by kernel_rfl) (by kernel_rfl)
  obtain ⟨xpr, epr, _, fpr⟩ := DataW.trod_int Tryz.underlying3 tpr
  obtain ⟨mho, yho, tho, who⟩ := open_part Tryz.underlying30 tod wod 7 _ rfl
  replace tho := trod_cut tho (o := 8) (k := 1) (by kernel_rfl) (by kernel_rfl)
  obtain ⟨xho, eho, _, fho⟩ := DataW.trod_int Tryz.underlying3 tho
  obtain ⟨mno, yno, tno, wno⟩ := open_part Tryz.underlying30 tod wod 8 _ rfl
  replace tno := trod_cut tno (o := 9) (k := 1) (by kernel_rfl) (by kernel_rfl)
  obtain ⟨xno, eno, _, fno⟩ := DataW.trod_string Tryz.underlying9 tno
  obtain ⟨mnn, ynn, tnn, wnn⟩ := open_part Tryz.underlying33 ten wen 1 _ rfl
  replace tnn := trod_cut tnn (o := 10) (k := 1) (by kernel_rfl) (by kernel_rfl)
  obtain ⟨xnn, enn, _⟩ := DataW.trod_bool Tryz.underlying4 tnn
  obtain ⟨mdp, ydp, tdp, wdp⟩ := open_part Tryz.underlying33 ten wen 2 _ rfl
  replace tdp := trod_cut tdp (o := 11) (k := 1) (by kernel_rfl) (by kernel_rfl)
  obtain ⟨DA, Dn, Dc, xdp, edp, rD, cD, bD, oD⟩ := open_depsM tdp wdp
  refine ⟨⟨⟨⟨xir, xii⟩, xbl, xst, xby, ⟨⟨xic, xis, xok, xac.data.toList, xpe.data.toList, xsu, xlg, xpr, xho, xno.data.toList⟩, xnn, xdp⟩⟩, ⟨LA, Ln, Lc⟩, ⟨DA, Dn, Dc⟩⟩, ?_, ⟨⟨rL, cL⟩, rD, cD⟩, ⟨by dsimp only; omega, by dsimp only; omega, fok, fun l hl => (oL l hl).1⟩, ⟨in64_wf fsu, fun l hl => (oL l hl).2⟩, ⟨fir, fii⟩, fac, fpe⟩
  apply List.ext_getElem?
  intro i
  match i with
  | 0 => exact sub_at (one_at eir)
  | 1 => exact sub_at (one_at eii)
  | 2 => exact sub_at (one_at ebl)
  | 3 => exact sub_at (one_at est)
  | 4 => exact sub_at (one_at eby)
  | 5 => exact sub_at (sub_at (sub_at (sub_at (one_at eic))))
  | 6 => exact sub_at (sub_at (sub_at (sub_at (one_at eis))))
  | 7 => exact sub_at (sub_at (sub_at (one_at eok)))
  | 8 => exact sub_at (sub_at (sub_at (one_at eac)))
  | 9 => exact sub_at (sub_at (sub_at (one_at epe)))
  | 10 => exact sub_at (sub_at (sub_at (one_at esu)))
  | 11 => exact sub_at (sub_at (sub_at (one_at elg)))
  | 12 => exact sub_at (sub_at (sub_at (one_at epr)))
  | 13 => exact sub_at (sub_at (sub_at (one_at eho)))
  | 14 => exact sub_at (sub_at (sub_at (one_at eno)))
  | 15 => exact sub_at (sub_at (one_at enn))
  | 16 => exact sub_at (sub_at (one_at edp))
  | n + 17 => rw [List.getElem?_eq_none (by omega)] <;> rfl
set_option maxRecDepth 100000 in
theorem open_recs {H : Type} {enc : TypeId × Value → H} {w : World} {held : Bool} {fuel : Nat} {cs : List Value} {x : DataW H × List MemPlace}
    (h : DataW.trod enc Tryz.prog w 0 (fun _ => true) held fuel 41 cs = some x) (hw : Wd Tryz.prog 41 x.1) :
    ∃ (A : Option Addr) (n c : Nat) (os : List Rs), cs = [.slice A n c] ∧ RdR w A n os ∧ n ≤ c ∧ n ≤ 140737488351232 ∧ (∀ o ∈ os, RsGood w o) := by
  obtain ⟨A, n, c, css, D, rfl, hc, hi⟩ := open_any Tryz.underlying41 (by kernel_rfl : Tryz.prog.cellsOf 37 = 17) (by omega) h hw
  have hch : ∀ i, i < n → ∃ o : Rs, css i = rsC o ∧ RsGood w o := by
    intro i hin
    obtain ⟨hlen, hwd, m, pl, htr⟩ := hi i hin
    exact open_rec htr hwd hlen
  obtain ⟨os, hl, hz⟩ := list_choice _ n hch
  have e1 : (List.range n).flatMap css = rss os := by
    unfold rss
    rw [← hl, flat_range rsC css os fun i e hie => (hz i e hie).1]
  rw [e1] at hc
  refine ⟨A, n, c, os, rfl, hc.1, hc.2.1, ?_, fun o ho => ?_⟩
  · have h4 := hc.2.2.2.1
    have h2 := hc.2.1
    have hb : 1 ≤ Tryz.prog.bytesOf 37 := by
      have : Tryz.prog.bytesOf 37 = 192 := by kernel_rfl
      omega
    have := Nat.mul_le_mul_left c hb
    omega
  · obtain ⟨i, hi1, hi2⟩ := List.getElem_of_mem ho
    exact (hz i o (by rw [List.getElem?_eq_getElem hi1, hi2])).2
end Go.Proofs.YtimlfdihodoolaaGreat
/-
  LogReads: for every input the law returns true, and each argument reads as it did. No condition.
-/
namespace Go.Proofs.YtimlfdihodoolaaGreat.lawReads
open Go.ChangeShapes Go.WideShapes Go.ChangeAt Go.RowKit Go.Deep
open Go.ChangeMaps (open_string shut_string)
set_option linter.unusedVariables false

set_option maxRecDepth 100000 in
theorem lifted (os : Os) (started : os.Started) (H : Type) (enc : TypeId × Value → H) :
    ReturnsInHanded {} Tryz.checked os 3 .any (Rows.logReadsSpec.pre6 enc Tryz.prog Tryz.f3 Rows.logReadsRow.domain false) (Rows.logReadsSpec.post enc Tryz.prog Tryz.f3 false true false false) := by
  refine returnsInHanded_of_change_sized (C := Tryz.checked) (by kernel_rfl) started (by kernel_rfl) Tryz.func3
    (ChangeSpec.witness6 (enc := enc) (C := Tryz.checked) false ⟨#[], #[.slice none 0 0], []⟩ 8 (by kernel_rfl) (by kernel_rfl) (by kernel_rfl) (by kernel_rfl)) ?_
  intro W base args ds gs before hval0 hW hcnd hsz _
  have hval : ∀ (j : Nat) t v, Tryz.f3.params[j]? = some t → args[j]? = some v → Value.okWide Tryz.prog W .any base t v := hval0
  have hW' := hW
  obtain ⟨p, q, hA0, hV, rfl, hfz, hnd⟩ := hW
  have hA : DataW.TrodAll enc Tryz.prog W 0 (fun _ => true) true Tryz.f3.params.toList args.toList ds p := hA0
  rw [Tryz.params3] at hA hval
  have laidOut : laidOutB Tryz.prog = true := by kernel_rfl
  obtain ⟨v0, vs0, d0, ds0, p0, q0, hargs, rfl, rfl, h0, r0⟩ := trodAll_cons hA
  obtain ⟨rfl, rfl, rfl⟩ := trodAll_nil r0
  obtain rfl : args = #[v0] := by cases args; simp_all
  obtain ⟨rfl, rfl⟩ := trodVars_none hV
  have k0 := h0
  have lt0 : ∀ x ∈ p0, x.block < W.heap.size := by obtain ⟨m, hm⟩ := k0; exact DataW.trod_lt m _ _ _ hm
  have w0 : Wd Tryz.prog 22 d0 := wd_arg hsz (j := 0) rfl rfl
  obtain ⟨fuel0, f0⟩ := h0
  obtain ⟨A0, n0, c0, l0, hcs0, cm0⟩ := open_bytes Tryz.underlying22 Tryz.underlying5 (by kernel_rfl) f0 w0
  rw [show Tryz.prog.bytesOf 5 = 1 by kernel_rfl] at cm0
  obtain ⟨a_, n_, c_, rfl⟩ := okWide_slice Tryz.underlying22 (hval 0 22 v0 rfl rfl)
  simp only [Value.cells, List.cons.injEq, and_true] at hcs0
  obtain ⟨rfl, rfl, rfl⟩ : A0 = a_ ∧ n0 = n_ ∧ c0 = c_ := by injection hcs0 with x1 x2 x3; exact ⟨x1.symm, x2.symm, x3.symm⟩
  clear hA0 hval0
  refine ((logReads_walk W A0 n0 c0 l0 cm0.1 (by have h1 := cm0.2.1; have h2 := cm0.2.2.2.1; omega) cm0.2.1 (by have h2 := cm0.2.2.2.1; omega)).mono (fun e w' h => (⟨h.1, h.2.below0⟩ : _ ∧ _))).mono fun e W' ⟨he, bel⟩ => ?_
  subst he
  exact ⟨_, rfl, _, _, _, [], _, [], hW', trodAll_mk1 (shut_bool Tryz.underlying4 _), (trodAll_cons_mk (Below.trod laidOut (by kernel_rfl) (of_decide_eq_true (by kernel_rfl)) k0 bel lt0) trodAll_mk0), rfl, bel.frame _, fun h => by cases h⟩

theorem over : Rows.logReadsRow.holds Tryz.pinned (OpenSpec.ofChange Rows.logReadsSpec) :=
  OpenClaim.holds_of_wide 3 Tryz.f3 rfl rfl rfl rfl rfl rfl rfl ⟨rfl, rfl, rfl, rfl, rfl⟩ rfl rfl rfl rfl rfl (by kernel_rfl) Tryz.func3 (by kernel_rfl)
    (of_decide_eq_true (by kernel_rfl)) (by unfold Func.isWrapper; first | (rw [if_pos (by decide +kernel)]; kernel_rfl) | (rw [if_neg (by decide +kernel)]; exact ⟨rfl, rfl⟩))
    (fun os started H enc _ => lifted os started H enc)

theorem proved : Rows.LogReadsSaid := over
end Go.Proofs.YtimlfdihodoolaaGreat.lawReads
