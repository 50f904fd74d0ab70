import Derived.Test.YtaohgefpnndjcaaNq13
import Derived.Deep.RegionLaw
import Derived.Test.YtaohgefpnndjcaaNq5
/-
  Lists of lists of legs; slices.Concat of them.
-/
namespace Go.Proofs.Ytaohgefpnndjcaa
set_option linter.unusedVariables false
open Go.RowKit
/-- lists of legs: their slices' values ss, what they hold lls -/
def LegsAt (w : World) (G : Option Addr) (m : Nat) (ss : List SV) (lls : List (List Lg)) : Prop :=
  Rd w 1 G m (ss.map SV.v) ∧ ss.length = lls.length ∧ ∀ (i : Nat) (s : SV) (l : List Lg), ss[i]? = some s → lls[i]? = some l → RdL w s.a s.n l ∧ s.n ≤ 1000
theorem LegsAt.mod0 {w w' : World} {G : Option Addr} {m : Nat} {ss : List SV} {lls : List (List Lg)} (h : LegsAt w G m ss lls) (hm : Mod none_ w w') : LegsAt w' G m ss lls :=
  ⟨Rd.mod0 h.1 hm, h.2.1, fun i s l hs hl => ⟨(h.2.2 i s l hs hl).1.mod0 hm, (h.2.2 i s l hs hl).2⟩⟩
theorem LegsAt.len {w : World} {G : Option Addr} {m : Nat} {ss : List SV} {lls : List (List Lg)} (h : LegsAt w G m ss lls) : lls.length = m := by
  have h1 := h.1.1
  rw [List.length_map] at h1
  have := h.2.1
  omega
theorem LegsAt.get {w : World} {G : Option Addr} {m : Nat} {ss : List SV} {lls : List (List Lg)} (h : LegsAt w G m ss lls) {j : Nat} (hj : j < m) :
    ∃ b o A n c l, G = some ⟨b, o, none⟩ ∧ w.cell? ⟨b, o + j, none⟩ = some (.slice A n c) ∧ lls[j]? = some l ∧ RdL w A n l ∧ n ≤ 1000 := by
  obtain ⟨b, o, e, hc⟩ := Rd.form h.1 (show 0 < m by omega) (by omega)
  have hl := h.len
  have hs := h.2.1
  have hjs : j < ss.length := by omega
  have hjl : j < lls.length := by omega
  obtain ⟨h1, h2⟩ := h.2.2 j ss[j] lls[j] (List.getElem?_eq_getElem hjs) (List.getElem?_eq_getElem hjl)
  refine ⟨b, o, ss[j].a, ss[j].n, ss[j].c, lls[j], e, ?_, List.getElem?_eq_getElem hjl, h1, h2⟩
  exact hc j _ (by rw [List.getElem?_map, List.getElem?_eq_getElem hjs]; rfl)
def preN (lls : List (List Lg)) (j : Nat) : Nat := (lls.take j).flatten.length
theorem pre_succ {lls : List (List Lg)} {j : Nat} {l : List Lg} (h : lls[j]? = some l) : (lls.take (j + 1)).flatten = (lls.take j).flatten ++ l ∧ preN lls (j + 1) = preN lls j + l.length := by
  have hj : j < lls.length := by
    rcases Nat.lt_or_ge j lls.length with hh | hh
    · exact hh
    · rw [List.getElem?_eq_none hh] at h; cases h
  rw [List.getElem?_eq_getElem hj] at h
  injection h with h
  have e : (lls.take (j + 1)).flatten = (lls.take j).flatten ++ l := by
    rw [List.take_succ_eq_append_getElem hj, List.flatten_append, h]; simp
  exact ⟨e, by unfold preN; rw [e, List.length_append]⟩
set_option maxRecDepth 100000 in
theorem growL_ok (w : World) (n : Nat) (hn : n ≤ 1000000000) : Calls Try.prog 67 #[.slice none 0 0, .int .i64 (n : Int)] w fun e w' =>
    ∃ A' c', e = .returned (.slice A' 0 c') ∧ OwL w' A' 0 c' [] ∧ Fresh w A' ∧ Mod none_ w w' := by
  obtain ⟨i0, hi, hz0, hz1, hz2⟩ := info_parts lginfo
  unfold zeroL at hz0
  rcases Nat.eq_zero_or_pos n with h0 | h0
  · subst h0
    go_enter Try.func67, Try.ntmps67
    go_wp2
    go_ret
    exact ⟨none, 0, rfl, Ow.nil _ _ _, (fun _ h => by cases h), Mod.refl _ _⟩
  · have hg1 := grownCap_le_maxLen w n 0 44 (by simp only [maxLen]; omega)
    have hg0 := grownCap_ge w n 0 44
    have hcl : ∀ c, c = grownCap w n 0 44 → c ≤ 9223372036854775807 := fun c hc => by rw [hc]; simpa [maxLen] using hg1
    go_enter Try.func67, Try.ntmps67
    go_wp2_with (at_builtin; refine wpList_append_zeros_nil rfl (.tmp 20) (.tmp 21) 23 3 rfl 44 .i64 i0 _ Try.underlying23 Try.underlying3 hi hz0 n h0 (by rw [hz2]; omega) (by omega) (by omega) rfl rfl ?_)
    go_ret
    refine ⟨some ⟨w.heap.size, 0, none⟩, grownCap w n 0 44, rfl, ⟨rfl, Nat.zero_le _, hg1, .inr ⟨w.heap.size, _, rfl, heap_alloc_new w.drew _, ?_, by simp [lgs]⟩⟩, ?_, ((Mod.refl none_ w).drew).alloc _⟩
    · simp only [Array.size_append, size_zeroCells]
      simp only [List.size_toArray, List.length_cons, List.length_nil]
      omega
    · intro a ha; cases ha; exact Nat.le_refl _
set_option maxRecDepth 100000 in
set_option maxHeartbeats 2000000 in
theorem concatL_ok (w : World) (G : Option Addr) (m d : Nat) (ss : List SV) (lls : List (List Lg)) (h : LegsAt w G m ss lls) (hm1 : m ≤ 1000) :
    Calls Try.prog 47 #[.slice G m d] w fun e w' =>
    ∃ A' c', e = .returned (.slice A' lls.flatten.length c') ∧ OwL w' A' lls.flatten.length c' lls.flatten ∧ Fresh w A' ∧ Mod none_ w w' := by
  have hl := h.len
  have hb : ∀ j, j ≤ m → preN lls j ≤ j * 1000 := by
    intro j
    induction j with
    | zero => intro _; unfold preN; simp
    | succ j ih =>
      intro hj
      have := ih (by omega)
      obtain ⟨b, o, A, n, c, l, _, _, hl2, hr, hn⟩ := h.get (show j < m by omega)
      have h2 := (pre_succ hl2).2
      have h3 := hr.len
      omega
  have hfull : lls.take m = lls := List.take_of_length_le (by omega)
  have hpm : preN lls m = lls.flatten.length := by unfold preN; rw [hfull]
  have hbm := hb m (by omega)
  have gr := Lib.hid (fun W => growL_ok W (preN lls m) (by omega))
  replace h := Lib.hid h
  replace hfull := Lib.hid hfull
  replace hb := Lib.hid hb
  replace hpm := Lib.hid hpm
  go_enter Try.func47, Try.ntmps47
  go_wp2_with fail
  go_loopw [3, 11] (fun s x wr => ∃ j : Nat, x = .int .i64 j ∧ s = .int .i64 (preN lls j : Nat) ∧ j ≤ m ∧ SameW w wr) (fun _ x _ => m - (intOf x).toNat)
  case atStart => exact ⟨0, rfl, by unfold preN; simp, by omega, rfl⟩
  case round =>
    obtain ⟨j, rfl, rfl, hj, hw⟩ := hrel
    cases hw
    by_cases hlt : j < m
    · obtain ⟨b, o, A, n, c, l, rfl, hc, hl2, hr, hn⟩ := h.out.get hlt
      have h2 := (pre_succ hl2).2
      have h3 := hr.len
      have h4 := hb.out j hj
      have h5 : j * 1000 ≤ 1000000 := by omega
      rw [h3] at h2
      generalize preN lls j = pj at *
      have h6 : wrap64 ((pj : Int) + (n : Int)) = ((pj + n : Nat) : Int) := by unfold wrap64; omega
      replace hl2 := Lib.hid hl2
      replace hr := Lib.hid hr
      replace h2 := Lib.hid h2
      replace h3 := Lib.hid h3
      go_wp2_with fail
      go_roundw
      case rel => exact ⟨j + 1, by go_num, by rw [h2.out]; simp, by omega, rfl⟩
      case measure => simp [intOf]; omega
    · have hjm : j = m := by omega
      subst hjm
      go_wp2_with fail
      refine (gr.out _).mono ?_
      rintro e w1 ⟨A0, c0, rfl, ho0, hf0, hm0⟩
      dsimp only
      replace ho0 := Lib.hid ho0
      replace hf0 := Lib.hid hf0
      replace hm0 := Lib.hid hm0
      go_wp2_with fail
      go_loopw [6, 27] (fun v x wr => ∃ i : Nat, x = .int .i64 i ∧ i ≤ j ∧ ∃ A' c', v = .slice A' (preN lls i) c' ∧ OwL wr A' (preN lls i) c' (lls.take i).flatten ∧ Fresh w A' ∧ Mod none_ w wr) (fun _ x _ => j - (intOf x).toNat)
      case atStart =>
        refine ⟨0, rfl, by omega, A0, c0, ?_, ?_, hf0.out, hm0.out⟩
        · unfold preN; simp
        · have := ho0.out; unfold preN; simpa using this
      case round =>
        obtain ⟨i, rfl, hi, A', c', rfl, how, hf, hm⟩ := hrel
        by_cases hlt2 : i < j
        · obtain ⟨b, o, A, n, c, l, rfl, hc, hl2, hr, hn⟩ := (h.out.mod0 hm).get hlt2
          obtain ⟨e1, e2⟩ := pre_succ hl2
          have h3 := hr.len
          have h4 := hb.out i hi
          have h5 : i * 1000 ≤ 1000000 := by omega
          rw [h3] at e2
          generalize preN lls i = pj at *
          replace how := Lib.hid how
          replace hf := Lib.hid hf
          replace hm := Lib.hid hm
          replace hl2 := Lib.hid hl2
          replace hr := Lib.hid hr
          replace e1 := Lib.hid e1
          replace e2 := Lib.hid e2
          replace h3 := Lib.hid h3
          go_wp2_with (at_builtin; go_loud (refine appL rfl (.tmp 31) (.tmp 32) rfl rfl how.out rfl hr.out (by omega) ?_; intro A2 c2 w2 ho2 hm2 hA2; replace ho2 := Lib.hid ho2; replace hm2 := Lib.hid hm2; replace hA2 := Lib.hid hA2))
          go_roundw
          case rel =>
            refine ⟨i + 1, by go_num, by omega, A2, c2, by rw [e2.out], ?_, Fresh.app hf.out hm.out.size hA2.out, hm.out.app hf.out hm2.out⟩
            rw [e2.out, e1.out]; exact ho2.out
          case measure => simp [intOf]; omega
        · have hij : i = j := by omega
          subst hij
          rw [hfull.out] at how
          rw [hpm.out] at how ⊢
          replace how := Lib.hid how
          replace hf := Lib.hid hf
          replace hm := Lib.hid hm
          go_wp2_with fail
          go_ret
          exact ⟨A', c', rfl, how.out, hf.out, hm.out⟩
end Go.Proofs.Ytaohgefpnndjcaa
/-
  A look-up and a store on a map of texts, as equations on the operation's run.
-/
namespace Go.Proofs.Ytaohgefpnndjcaa
set_option linter.unusedVariables false
open Go.RowKit
open Go.Maps (Keyed string_keyed)
theorem map_look_run {w : World} (t : TypeId) (k e : TypeId) (ht : Try.prog.underlying t = some (.map k e)) (hk : Try.prog.underlying k = some .string)
    {z : Value} (hz : (zeroValue e).run Try.prog w = .ok z w) (b : Nat) (L : List NameV) (h : MapAt w k b L) (s : ByteArray) (hs : s.size ≤ maxLen) :
    (Instr.lookup t (.map (some b)) (.string s) false).run Try.prog w = .ok ((findL L s.data.toList).getD z) w := by
  obtain ⟨v, ps, hrun, hv⟩ := h.tight.lookup (string_keyed hk) ht hz (zd := .held z) (zp := []) rfl (Go.WideMaps.keyOf_string_mk hk hs)
  rw [atKey_mapD] at hv
  have : v = (findL L s.data.toList).getD z := by simp [VR] at hv; exact hv.1
  rw [this] at hrun
  exact hrun
theorem map_store_run {w : World} (t : TypeId) (k e : TypeId) (ht : Try.prog.underlying t = some (.map k e)) (hk : Try.prog.underlying k = some .string)
    (b : Nat) (L : List NameV) (h : MapAt w k b L) (hroom : L.length + 1 < maxLen) (s : ByteArray) (hs : s.size ≤ maxLen) (val : Value) :
    ∃ w', (Instr.mapUpdate t (.map (some b)) (.string s) val).run Try.prog w = .ok () w' ∧ MapAt w' k b (putL s.data.toList val L) ∧ Mod (· = b) w w' ∧ w'.heap.size = w.heap.size := by
  obtain ⟨w', hrun, h1, h2⟩ := h.tight.store (string_keyed hk) ht (by omega) (Go.WideMaps.keyOf_string_mk hk hs) (d := .held val) (ps := []) (show VR val = some (.held val, []) from rfl)
  rw [put_mapD] at h1
  refine ⟨w', hrun, ⟨_, hroom, h1⟩, (Mod.of_grown h2.grown).mono fun i hi => by cases hi; rfl, ?_⟩
  obtain ⟨es, c, es', c', _, rfl⟩ := h2
  simp [ChangeMaps.setBlock]
/-- A name with a row of sums. -/
abbrev NameS := List UInt8 × SV
def nmv (p : NameS) : NameV := (p.1, p.2.v)
def insE (x : NameS) : List NameS → List NameS
  | [] => [x]
  | y :: l => if bytesBefore x.1 y.1 then x :: y :: l else y :: insE x l
def putE (s : List UInt8) (v : SV) (E : List NameS) : List NameS := insE (s, v) (E.filter fun p => !(p.1 == s))
theorem ins_nmv (x : NameS) : ∀ E : List NameS, (insE x E).map nmv = insL (nmv x) (E.map nmv)
  | [] => rfl
  | y :: l => by
    unfold insE
    rw [List.map_cons, insL]
    show _ = if bytesBefore x.1 y.1 then _ else _
    split
    · rfl
    · rw [List.map_cons, ins_nmv x l]
theorem put_nmv (s : List UInt8) (v : SV) (E : List NameS) : (putE s v E).map nmv = putL s v.v (E.map nmv) := by
  unfold putE putL
  rw [ins_nmv]
  congr 1
  rw [List.filter_map]; rfl
theorem insE_mem {x y : NameS} : ∀ {E : List NameS}, y ∈ insE x E ↔ y = x ∨ y ∈ E
  | [] => by simp [insE]
  | z :: l => by
    unfold insE
    split
    · simp
    · simp only [List.mem_cons, insE_mem (E := l)]
      constructor
      · rintro (h | h | h)
        · exact .inr (.inl h)
        · exact .inl h
        · exact .inr (.inr h)
      · rintro (h | h | h)
        · exact .inr (.inl h)
        · exact .inl h
        · exact .inr (.inr h)
theorem putE_mem {s : List UInt8} {v : SV} {y : NameS} {E : List NameS} : y ∈ putE s v E ↔ y = (s, v) ∨ (y ∈ E ∧ y.1 ≠ s) := by
  unfold putE
  rw [insE_mem, List.mem_filter]
  simp
def findS (E : List NameS) (s : List UInt8) : SV := ((E.find? fun p => p.1 == s).map (·.2)).getD ⟨none, 0, 0⟩
theorem find_nmv (E : List NameS) (s : List UInt8) : (findL (E.map nmv) s).getD (.slice none 0 0) = (findS E s).v := by
  unfold findL findS
  induction E with
  | nil => rfl
  | cons y l ih =>
    rw [List.map_cons, List.find?_cons, List.find?_cons]
    show ((match y.1 == s with | true => _ | false => _ : Option NameV).map (·.2)).getD _ = _
    cases h : (y.1 == s) with
    | true => rfl
    | false => simpa using ih
def sumsOf (ls : List Lg) (s : List UInt8) : List Int := (ls.filter fun l => l.n == s).map fun l => l.x
theorem sums_snoc (ls : List Lg) (l : Lg) (s : List UInt8) : sumsOf (ls ++ [l]) s = if l.n = s then sumsOf ls s ++ [l.x] else sumsOf ls s := by
  unfold sumsOf
  rw [List.filter_append, List.map_append]
  by_cases e : l.n = s
  · rw [if_pos e]; simp [e]
  · rw [if_neg e]
    have : (l.n == s) = false := by simpa using e
    simp [this]
/-- the names so far, each with a row of its own of its sums -/
def NetRel (w : World) (b : Nat) (ls : List Lg) (wr : World) : Prop := ∃ E : List NameS, MapAt wr 9 b (E.map nmv) ∧
  (∀ p ∈ E, OwI wr p.2.a p.2.n p.2.c (sumsOf ls p.1) ∧ Fresh w p.2.a ∧ ∀ k, fp p.2.a k → k ≠ b) ∧ (∀ s, (∃ p ∈ E, p.1 = s) ↔ ∃ l ∈ ls, l.n = s) ∧
  (∀ p ∈ E, ∀ q ∈ E, p.1 ≠ q.1 → ∀ k, fp p.2.a k → ¬ fp q.2.a k) ∧ Mod none_ w wr ∧ w.heap.size ≤ b ∧ E.length ≤ ls.length
theorem insE_len (x : NameS) : ∀ E : List NameS, (insE x E).length = E.length + 1
  | [] => rfl
  | y :: l => by
    unfold insE
    split
    · rfl
    · rw [List.length_cons, insE_len x l, List.length_cons]
theorem findS_some {E : List NameS} {s : List UInt8} (h : ∃ p ∈ E, p.1 = s) : (s, findS E s) ∈ E := by
  obtain ⟨p, hp, rfl⟩ := h
  unfold findS
  cases hf : E.find? (fun q => q.1 == p.1) with
  | none =>
    have := List.find?_eq_none.1 hf p hp
    simp at this
  | some q =>
    have h1 := List.mem_of_find?_eq_some hf
    have h2 : q.1 = p.1 := by simpa using List.find?_some hf
    show (p.1, q.2) ∈ E
    rw [← h2]; exact h1
theorem findS_none {E : List NameS} {s : List UInt8} (h : ¬ ∃ p ∈ E, p.1 = s) : findS E s = ⟨none, 0, 0⟩ := by
  unfold findS
  have : E.find? (fun q => q.1 == s) = none := by
    rw [List.find?_eq_none]
    intro q hq he
    exact h ⟨q, hq, by simpa using he⟩
  rw [this]; rfl
theorem sums_none {ls : List Lg} {s : List UInt8} (h : ¬ ∃ l ∈ ls, l.n = s) : sumsOf ls s = [] := by
  unfold sumsOf
  have : ls.filter (fun l => l.n == s) = [] := by
    rw [List.filter_eq_nil_iff]
    intro l hl he
    exact h ⟨l, hl, by simpa using he⟩
  rw [this]; rfl
/-- the row of a name, or none -/
theorem find_own {w wr : World} {b : Nat} {ls : List Lg} {E : List NameS} (h2 : ∀ p ∈ E, OwI wr p.2.a p.2.n p.2.c (sumsOf ls p.1) ∧ Fresh w p.2.a ∧ ∀ k, fp p.2.a k → k ≠ b) (h3 : ∀ s, (∃ p ∈ E, p.1 = s) ↔ ∃ l ∈ ls, l.n = s)
    (h4 : ∀ p ∈ E, ∀ q ∈ E, p.1 ≠ q.1 → ∀ k, fp p.2.a k → ¬ fp q.2.a k) (s : List UInt8) :
    OwI wr (findS E s).a (findS E s).n (findS E s).c (sumsOf ls s) ∧ Fresh w (findS E s).a ∧ (∀ k, fp (findS E s).a k → k ≠ b) ∧ ∀ q ∈ E, q.1 ≠ s → ∀ k, fp q.2.a k → ¬ fp (findS E s).a k := by
  by_cases h : ∃ p ∈ E, p.1 = s
  · have hm := findS_some h
    obtain ⟨a1, a2, a3⟩ := h2 _ hm
    exact ⟨a1, a2, a3, fun q hq hn => h4 q hq _ hm hn⟩
  · rw [findS_none h, sums_none (fun k => h ((h3 s).2 k))]
    exact ⟨Ow.nil _ _ _, (fun a h => by cases h), (fun k ⟨a, h, _⟩ => by cases h), fun q _ _ k _ ⟨a, h, _⟩ => by cases h⟩
theorem net_step {w wr w4 w5 w6 : World} {b : Nat} {ls : List Lg} {l : Lg} {E : List NameS} {A' : Option Addr} {c' : Nat} (h2 : ∀ p ∈ E, OwI wr p.2.a p.2.n p.2.c (sumsOf ls p.1) ∧ Fresh w p.2.a ∧ ∀ k, fp p.2.a k → k ≠ b) (h3 : ∀ s, (∃ p ∈ E, p.1 = s) ↔ ∃ l ∈ ls, l.n = s)
    (h4 : ∀ p ∈ E, ∀ q ∈ E, p.1 ≠ q.1 → ∀ k, fp p.2.a k → ¬ fp q.2.a k) (hm : Mod none_ w wr) (hb : w.heap.size ≤ b) (hbl : b < wr.heap.size) (h7 : E.length ≤ ls.length)
    (hm4 : Mod none_ wr w4) (ho5 : OwI w5 A' ((findS E l.n).n + 1) c' (sumsOf ls l.n ++ [l.x])) (hm5 : Mod (fp (findS E l.n).a) w4 w5) (hA : A' = (findS E l.n).a ∨ A' = some ⟨w4.heap.size, 0, none⟩)
    (hM : MapAt w6 9 b (putL l.n (.slice A' ((findS E l.n).n + 1) c') (E.map nmv))) (hm6 : Mod (· = b) w5 w6) : NetRel w b (ls ++ [l]) w6 := by
  obtain ⟨o1, o2, o3, o4⟩ := find_own h2 h3 h4 l.n
  have hfA : Fresh w A' := Fresh.app o2 (hm.trans hm4).size hA
  have hbA : ∀ k, fp A' k → k ≠ b := fun k hk => by
    rcases hA with rfl | rfl
    · exact o3 k hk
    · obtain ⟨a, ha, rfl⟩ := hk
      cases ha
      have := hm4.size
      show w4.heap.size ≠ b
      omega
  have hqA : ∀ q ∈ E, q.1 ≠ l.n → ∀ k, fp q.2.a k → ¬ fp A' k := fun q hq hn k hk hkA => by
    rcases hA with rfl | rfl
    · exact o4 q hq hn k hk hkA
    · obtain ⟨a, ha, rfl⟩ := hkA
      cases ha
      have h1 := Ow.lt (h2 q hq).1 _ hk
      have h5 := hm4.size
      have h6 : w4.heap.size < wr.heap.size := h1
      omega
  refine ⟨putE l.n ⟨A', (findS E l.n).n + 1, c'⟩ E, ?_, ?_, ?_, ?_, ?_, hb, ?_⟩
  · rw [put_nmv]; exact hM
  · intro p hp
    rcases putE_mem.1 hp with rfl | ⟨hp, hn⟩
    · refine ⟨?_, hfA, hbA⟩
      rw [sums_snoc, if_pos rfl]
      exact Ow.mod ho5 hm6 (fun k hk he => hbA k hk he)
    · obtain ⟨a1, a2, a3⟩ := h2 p hp
      refine ⟨?_, a2, a3⟩
      rw [sums_snoc, if_neg (fun e => hn e.symm)]
      exact Ow.mod (Ow.mod (Ow.mod0 a1 hm4) hm5 (fun k hk => o4 p hp hn k hk)) hm6 (fun k hk he => a3 k hk he)
  · intro s
    constructor
    · rintro ⟨p, hp, rfl⟩
      rcases putE_mem.1 hp with rfl | ⟨hp, hn⟩
      · exact ⟨l, by simp, rfl⟩
      · obtain ⟨m, hm', he⟩ := (h3 p.1).1 ⟨p, hp, rfl⟩
        exact ⟨m, by simp [hm'], he⟩
    · rintro ⟨m, hm', rfl⟩
      by_cases e : m.n = l.n
      · exact ⟨(l.n, _), putE_mem.2 (.inl rfl), e.symm⟩
      · rw [List.mem_append] at hm'
        rcases hm' with hm' | hm'
        · obtain ⟨p, hp, he⟩ := (h3 m.n).2 ⟨m, hm', rfl⟩
          exact ⟨p, putE_mem.2 (.inr ⟨hp, by rw [he]; exact e⟩), he⟩
        · simp at hm'; subst hm'; exact absurd rfl e
  · intro p hp q hq hn k hkp hkq
    rcases putE_mem.1 hp with rfl | ⟨hp, hnp⟩
    · rcases putE_mem.1 hq with rfl | ⟨hq, hnq⟩
      · exact hn rfl
      · exact hqA q hq hnq k hkq hkp
    · rcases putE_mem.1 hq with rfl | ⟨hq, hnq⟩
      · exact hqA p hp hnp k hkp hkq
      · exact h4 p hp q hq hn k hkp hkq
  · exact ((hm.trans hm4).then hm5 (fun i hi ⟨a, ha, hab⟩ => by have := o2 a ha; omega)).then hm6 (fun i hi he => by have : i = b := he; omega)
  · unfold putE
    rw [insE_len, List.length_append, List.length_singleton]
    have := List.length_filter_le (fun p : NameS => !(p.1 == l.n)) E
    omega
end Go.Proofs.Ytaohgefpnndjcaa
/-
  slices.Sorted(maps.Keys(m)) for the map of sums. By the kit's contracts.
-/
namespace Go.Proofs.Ytaohgefpnndjcaa
set_option linter.unusedVariables false
open Go.RowKit Go.Maps Go.Sort Go.Shelf
theorem keysN_ok (mb : Option Nat) (W : World) : Calls Try.prog 48 #[.map mb] W fun e w' => e = .returned (.func (.func 68) #[] #[.pointer (some ⟨W.heap.size, 0, none⟩)]) ∧ w' = W.alloc (.cells #[.map mb] 72) :=
  (callsIn_wide (n := 5)).1 (AnyZ.keys_in Try.keys48 Fence.wide 5 trivial rfl mb W)
set_option maxHeartbeats 1000000 in
theorem sortedN_ok (w : World) (b : Nat) (L : List NameV) (h : MapAt w 9 b L) (hmax : L.length ≤ 1000) :
    Calls Try.prog 42 #[.func (.func 68) #[] #[.pointer (some ⟨w.heap.size, 0, none⟩)]] (w.alloc (.cells #[.map (some b)] 72))
      fun e w' => ∃ A c, e = .returned (.slice A L.length c) ∧ Rd w' 1 A L.length (nvs (L.map (·.1))) ∧ Mod none_ w w' := by
  have hown := h.tight
  have hbl := hown.lt
  have hsz : Maps.size (mapD L) = L.length := size_mapD L
  have hseq : SeqGives Fence.wide 2 Try.prog 68 #[.pointer (some ⟨w.heap.size, 0, none⟩)] encStr (fun ss => ss.Perm (strKeys (mapD L))) (Maps.size (mapD L)) (w.alloc (.cells #[.map (some b)] 72)) :=
    AnyZ.keys_gives (ρ := Try.keys48_ren) { Try.keys48 with } Fence.wide _ trivial rfl (by omega) w.heap.size b L.length (mapD L) _ (by simp) (by simp) (by
      obtain ⟨es, clock, hb, Ft, hs, hD⟩ := hown
      exact ⟨es, clock, (Below.heap_alloc _ _ b hbl).trans hb, Ft, hs, hD⟩)
  have := AnyZ.sorted_in Try.sorted42 Fence.wide 5 trivial trivial trivial trivial rfl (by omega) (sorts_in _) (enters_of Try.func63 (by kernel_rfl) rfl) 68 #[.pointer (some ⟨w.heap.size, 0, none⟩)] trivial (enters_of Try.func68 (by kernel_rfl) rfl) _ _ (by rw [hsz]; unfold maxLen; omega) (by rw [hsz]; omega) _ hseq
  refine (callsIn_wide.1 this).mono ?_
  rintro e w' ⟨v, ss, rfl, hS, hrow, hnil, hb⟩
  have hk := keys_sorted L (h.sorted Try.underlying9) ss hS
  have hlen : ss.length = L.length := by
    have := congrArg List.length hk
    rw [List.length_mergeSort, List.length_map] at this; exact this
  rw [hk] at hrow
  obtain ⟨A, c, rfl, ho, _⟩ := ow_of_row hrow
  rw [hlen] at ho ⊢
  exact ⟨A, c, rfl, ho.rd, ((Mod.refl none_ w).alloc _).then (Mod.of_below hb) (fun _ _ h => h)⟩
end Go.Proofs.Ytaohgefpnndjcaa
/-
  Net: the names and their sums.
-/
namespace Go.Proofs.Ytaohgefpnndjcaa
set_option linter.unusedVariables false
open Go.RowKit
theorem step_app64 {w : World} {ops : Array Oper} {o : Oper} {a : Act} {K : Act → World → Prop} {Q : Exit → Act → World → Prop} {X : Prop} (hgd : o.guard = none) (s x : Operand)
    (ho : o.op = .call { callee := .builtin .append, args := #[s, x], argTypes := #[58, 58] })
    {A : Option Addr} {n c : Nat} {xs : List Int} (hs : a.eval s = .slice A n c) (hown : OwI w A n c xs)
    {S : Option Addr} {m d : Nat} {news : List Int} (hx : a.eval x = .slice S m d) (hr : RdI w S m news) (hb : (n + m) * 8 ≤ 140737488355328)
    (h : ∀ A' c' w', OwI w' A' (n + m) c' (xs ++ news) → Mod (fp A) w w' → (A' = A ∨ A' = some ⟨w.heap.size, 0, none⟩) → K (a.put o.dst (.slice A' (n + m) c')) w') :
    if Region.wanted o (yielded ops a.tmps) = true then Oper.wp Try.prog o a w K Q else X := by
  obtain ⟨i0, hi, hz0, hz1, hz2⟩ := info_parts i64info
  refine step_append_ow hgd s x 58 ho 2 i0 _ 1 8 Try.underlying58 hi hz0 hz1 hz2 rfl (by omega) A n c (ivs xs) hs hown S m d (ivs news) hx hr (ivs_one _) (by omega) (by omega) ?_
  intro A' c' w' h1
  rw [← ivs_append] at h1
  exact h A' c' w' h1
def outL (ls : List Lg) (N : List (List UInt8)) : List Lg := (N.filter fun s => !(isum (sumsOf ls s) == 0)).map fun s => ⟨s, isum (sumsOf ls s)⟩
theorem outL_snoc (ls : List Lg) (N : List (List UInt8)) (s : List UInt8) : outL ls (N ++ [s]) = if isum (sumsOf ls s) = 0 then outL ls N else outL ls N ++ [⟨s, isum (sumsOf ls s)⟩] := by
  unfold outL
  rw [List.filter_append, List.map_append]
  by_cases e : isum (sumsOf ls s) = 0
  · rw [if_pos e]; simp [e]
  · rw [if_neg e]
    have : (isum (sumsOf ls s) == 0) = false := by simpa using e
    simp [this]
/-- what Net answers: the names' sums, without those that are 0 -/
def NetPost (ls : List Lg) (w : World) (e : Ending) (w' : World) : Prop := ∃ N : List (List UInt8), N.Pairwise (fun a b => bytesBefore a b = true) ∧ (∀ s, s ∈ N ↔ ∃ l ∈ ls, l.n = s) ∧ Mod none_ w w' ∧
  (((∀ s ∈ N, inI (isum (sumsOf ls s)) = true) ∧ ∃ A c, e = .returned (.tuple #[.slice A (outL ls N).length c, .int .i64 0]) ∧ OwL w' A (outL ls N).length c (outL ls N) ∧ Fresh w A) ∨
   ((∃ s ∈ N, inI (isum (sumsOf ls s)) = false) ∧ e = .returned (.tuple #[.slice none 0 0, .int .i64 2])))
set_option maxRecDepth 100000 in
set_option maxHeartbeats 4000000 in
theorem net_ok (w : World) (G : Option Addr) (m d : Nat) (ss : List SV) (lls : List (List Lg)) (h : LegsAt w G m ss lls) (hm1 : m ≤ 1000) (hz : ∀ l ∈ lls.flatten, LgOk l) (hlen : lls.flatten.length ≤ 1000) :
    Calls Try.prog 20 #[.slice G m d] w (NetPost lls.flatten w) := by
  have hmk := fun W => run_makeMap (P := Try.prog) 72 W
  have kc := Lib.hid (fun W (h : LegsAt W G m ss lls) => concatL_ok W G m d ss lls h hm1)
  replace h := Lib.hid h
  go_enter Try.func20, Try.ntmps20
  go_wp2_with fail
  refine (kc.out _ (h.out.mod0 ((Mod.refl _ _).alloc _))).mono ?_
  rintro e w1 ⟨A1, c1, rfl, ho1, hf1, hm1⟩
  dsimp only
  generalize lls.flatten = ls at *
  have hM0 := Lib.hid ((MapAt.made w 9).mod hm1 (fun h => h))
  have hmw1 := Lib.hid (((Mod.refl none_ w).alloc (.map #[] 0)).trans hm1)
  have hbl1 := hM0.out.lt
  clear hm1
  replace ho1 := Lib.hid ho1
  replace hf1 := Lib.hid hf1
  replace hz := Lib.hid hz
  go_wp2_with fail
  go_loopw [16] (fun x wr => ∃ j : Nat, x = .int .i64 j ∧ j ≤ ls.length ∧ NetRel w w.heap.size (ls.take j) wr ∧ OwL wr A1 ls.length c1 ls) (fun x _ => ls.length - (intOf x).toNat)
  case atStart => exact ⟨0, rfl, by omega, ⟨[], hM0.out, (fun p hp => by cases hp), (fun s => by simp), (fun p hp => by cases hp), hmw1.out, Nat.le_refl _, Nat.zero_le _⟩, ho1.out⟩
  case round =>
    obtain ⟨j, rfl, hj, ⟨E, g1, g2, g3, g4, g5, g6, g7⟩, hrd⟩ := hrel
    by_cases hlt : j < ls.length
    · obtain ⟨g, o, l, rfl, hmem, hjl, y1, y2⟩ := rdl_get (show RdL wr A1 ls.length ls from Ow.rd hrd) hlt
      have hgl := World.block_lt_of_cell? wr _ y1
      have hlok := hz.out l hmem
      obtain ⟨o1, o2, o3, o4⟩ := find_own g2 g3 g4 l.n
      have hbl := g1.lt
      have hln : (sumsOf (ls.take j) l.n).length ≤ 1000000 := by
        unfold sumsOf
        rw [List.length_map]
        have := List.length_filter_le (fun m : Lg => m.n == l.n) (ls.take j)
        rw [List.length_take] at this
        omega
      have hnn := OwI.len o1
      have lk : ∀ W, MapAt W 9 w.heap.size (E.map nmv) → (Instr.lookup 72 (.map (some w.heap.size)) (.string (txt l.n)) false).run Try.prog W = .ok (.slice (findS E l.n).a (findS E l.n).n (findS E l.n).c) W := fun W hW => by
        have := map_look_run 72 9 58 Try.underlying72 Try.underlying9 (z := .slice none 0 0) (by rfl) w.heap.size (E.map nmv) hW (txt l.n) hlok.1
        rw [show (txt l.n).data.toList = l.n from rfl, find_nmv] at this
        exact this
      have hEl : (E.map nmv).length ≤ 1000 := by rw [List.length_map]; rw [List.length_take] at g7; omega
      have hMd : MapAt (wr.alloc (.cells #[.string (txt l.n), .int .i64 l.x] 44)).drew 9 w.heap.size (E.map nmv) := MapAt.mod (MapAt.alloc g1 _) (Mod.refl none_ _).drew (fun h => h)
      have hM4 : MapAt ((wr.alloc (.cells #[.string (txt l.n), .int .i64 l.x] 44)).alloc (.cells #[.int .i64 l.x] 2)).drew 9 w.heap.size (E.map nmv) := MapAt.mod (MapAt.alloc (MapAt.alloc g1 _) _) (Mod.refl none_ _).drew (fun h => h)
      have hq4 : Blk ((wr.alloc (.cells #[.string (txt l.n), .int .i64 l.x] 44)).alloc (.cells #[.int .i64 l.x] 2)).drew wr.heap.size 44 #[.string (txt l.n), .int .i64 l.x] := ((Blk.new wr _ _).alloc _).drew
      have lk1 := lk _ hMd
      have lk2 := lk _ hM4
      clear hMd
      clear lk
      obtain ⟨fa, fn, fc, hfs⟩ : ∃ a n c, findS E l.n = ⟨a, n, c⟩ := ⟨_, _, _, rfl⟩
      rw [hfs] at lk1 lk2 o1 o2 o3 o4 hnn
      dsimp only at lk1 lk2 o1 o2 o3 o4 hnn
      have hfn : fn ≤ 1000000 := by omega
      have hjl2 : ls.take (j + 1) = ls.take j ++ [l] := by
        rw [List.getElem?_eq_getElem hlt] at hjl
        injection hjl with hjl
        rw [List.take_succ_eq_append_getElem hlt, hjl]
      have hAA : ∀ k, fp (some ⟨g, o, none⟩) k → ¬ fp fa k := fun k => Ow.ne_ow hrd o1 (by decide) k
      have hAb : ∀ k, fp (some ⟨g, o, none⟩) k → ¬ k = w.heap.size := fun k hk he => by
        obtain ⟨a, ha, rfl⟩ := hk
        have h9 := hf1.out a ha
        simp at h9
        omega
      replace g1 := Lib.hid g1
      replace g2 := Lib.hid g2
      replace g3 := Lib.hid g3
      replace g4 := Lib.hid g4
      replace g5 := Lib.hid g5
      replace g7 := Lib.hid g7
      replace hM4 := Lib.hid hM4
      replace hq4 := Lib.hid hq4
      replace hrd := Lib.hid hrd
      replace hjl2 := Lib.hid hjl2
      replace hAA := Lib.hid hAA
      replace hAb := Lib.hid hAb
      replace hmem := Lib.hid hmem
      replace hjl := Lib.hid hjl
      replace hlok := Lib.hid hlok
      replace o1 := Lib.hid o1
      replace o2 := Lib.hid o2
      replace o3 := Lib.hid o3
      replace o4 := Lib.hid o4
      replace hfs := Lib.hid hfs
      replace hnn := Lib.hid hnn
      replace hln := Lib.hid hln
      go_upto_region 5 with fail
      go_region_law ((refine step_app64 (by rfl) (.tmp 26) (.tmp 29) (by rfl) (by rfl) (Ow.mod0 o1.out ((((Mod.refl none_ wr).alloc _).alloc _).drew)) (by rfl) (show RdI ((wr.alloc (.cells #[.string (txt l.n), .int .i64 l.x] 44)).alloc (.cells #[.int .i64 l.x] 2)).drew (some ⟨wr.heap.size + 1, 0, none⟩) 1 [l.x] from Rd.mod0 (rdi_one' _ _ (wr.heap.size + 1) (by simp) _) (Mod.refl none_ _).drew) (by omega) ?_; intro A' c' w5 ho5 hm5 hA5; have q5 : w5.cell? ⟨wr.heap.size, 0, none⟩ = some (.string (txt l.n)) := (hq4.out.mod hm5 (fun hk => by have h9 := Ow.lt o1.out _ hk; omega)).cell_ rfl; obtain ⟨w6, hrun6, hM6, hm6, hsz6⟩ := map_store_run 72 9 58 Try.underlying72 Try.underlying9 w.heap.size (E.map nmv) (hM4.out.mod hm5 (fun hk => o3.out _ hk rfl)) (by unfold maxLen; omega) (txt l.n) hlok.out.1 (.slice A' (fn + 1) c'); replace ho5 := Lib.hid ho5; replace hm5 := Lib.hid hm5; replace hA5 := Lib.hid hA5; replace hM6 := Lib.hid hM6; replace hm6 := Lib.hid hm6; replace hsz6 := Lib.hid hsz6))
      all_goals
        go_wp2_with fail
        go_roundw
        case rel =>
          have hmd : Mod none_ wr ((wr.alloc (.cells #[.string (txt l.n), .int .i64 l.x] 44)).alloc (.cells #[.int .i64 l.x] 2)).drew := (((Mod.refl none_ wr).alloc _).alloc _).drew
          refine ⟨j + 1, by go_num, by omega, ?_, Ow.mod (Ow.mod (Ow.mod0 hrd.out hmd) hm5.out hAA.out) hm6.out (fun k hk he => hAb.out k hk he)⟩
          rw [hjl2.out]
          have hfs2 := hfs.out
          refine net_step (A' := A') (c' := c') g2.out g3.out g4.out g5.out g6 hbl g7.out hmd ?_ (w5 := w5) ?_ ?_ ?_ hm6.out
          · rw [hfs2]; exact ho5.out
          · rw [hfs2]; exact hm5.out
          · rw [hfs2]; exact hA5.out
          · rw [hfs2]; exact hM6.out
        case measure => simp [intOf]; omega
    · have hfull : ls.take j = ls := List.take_of_length_le (by omega)
      rw [hfull] at g2 g3 g7
      have hsrt := g1.sorted Try.underlying9
      have hEl : (E.map nmv).length ≤ 1000 := by rw [List.length_map]; omega
      have kk := Lib.hid (keysN_ok (some w.heap.size) wr)
      have kso := Lib.hid (sortedN_ok wr w.heap.size (E.map nmv) g1 hEl)
      have hLE : (E.map nmv).length = E.length := List.length_map ..
      have hnm : (E.map nmv).map (·.1) = E.map (fun p => p.1) := by rw [List.map_map]; rfl
      rw [hLE, hnm] at kso
      have hNs : (E.map fun p => p.1).Pairwise (fun a b => bytesBefore a b = true) := by
        unfold Sorted at hsrt
        rw [List.pairwise_map] at hsrt ⊢
        exact hsrt
      have hNm : ∀ s, s ∈ (E.map fun p => p.1) ↔ ∃ l ∈ ls, l.n = s := fun s => by
        rw [← g3 s, List.mem_map]
      have hE1 : E.length ≤ 1000 := by omega
      have hbl := g1.lt
      clear hEl hLE hnm hsrt hfull
      replace g1 := Lib.hid g1
      replace g2 := Lib.hid g2
      replace g3 := Lib.hid g3
      replace g4 := Lib.hid g4
      replace g5 := Lib.hid g5
      replace g7 := Lib.hid g7
      replace hrd := Lib.hid hrd
      replace hNs := Lib.hid hNs
      replace hNm := Lib.hid hNm
      go_wp2_with fail
      refine kk.out.mono ?_
      rintro e w2 ⟨rfl, rfl⟩
      dsimp only
      go_wp2_with fail
      refine kso.out.mono ?_
      rintro e w3 ⟨A3, c3, rfl, hr3, hm3⟩
      dsimp only
      have hM3 := Lib.hid (MapAt.mod g1.out hm3 (fun h => h))
      have hmw3 := Lib.hid (g5.out.trans hm3)
      have hO3 := Lib.hid (fun p (hp : p ∈ E) => (show OwI w3 p.2.a p.2.n p.2.c (sumsOf ls p.1) from Ow.mod0 (g2.out p hp).1 hm3))
      have hmr3 := Lib.hid hm3
      clear hm3
      replace hr3 := Lib.hid hr3
      have hown := fun s => find_own g2.out g3.out g4.out s
      obtain ⟨N, hN⟩ : ∃ N, E.map (fun p => p.1) = N := ⟨_, rfl⟩
      have hNl : N.length = E.length := by rw [← hN, List.length_map]
      rw [hN] at hr3 hNs hNm
      have hmw33 := Lib.hid (show Mod none_ wr w3 from hmr3.out)
      replace hown := Lib.hid hown
      replace hN := Lib.hid hN
      replace hNl := Lib.hid hNl
      go_wp2_with fail
      go_loopw [7, 36] (fun v x wr2 => ∃ i : Nat, x = .int .i64 i ∧ i ≤ E.length ∧ ∃ A' c', v = .slice A' (outL ls (N.take i)).length c' ∧ OwL wr2 A' (outL ls (N.take i)).length c' (outL ls (N.take i)) ∧ Fresh w3 A' ∧ (∀ s ∈ N.take i, inI (isum (sumsOf ls s)) = true) ∧ Mod none_ w3 wr2) (fun _ x _ => E.length - (intOf x).toNat)
      case atStart => exact ⟨0, rfl, by omega, none, 0, rfl, Ow.nil _ _ _, (fun _ h => by cases h), (fun s h => by cases h), Mod.refl _ _⟩
      case round =>
        obtain ⟨i, rfl, hi, A', c', rfl, how, hf, hall, hm⟩ := hrel
        by_cases hil : i < E.length
        · have hiN : i < N.length := by rw [hNl.out]; exact hil
          obtain ⟨b3, o3, rfl, hc3⟩ := Rd.form (Rd.mod0 hr3.out hm) (show 0 < E.length by omega) (by omega)
          have hc := hc3 i _ (nvs_get hiN)
          clear hc3
          have htk : N.take (i + 1) = N.take i ++ [N[i]] := by rw [List.take_succ_eq_append_getElem hiN]
          have hmem : N[i] ∈ N := List.getElem_mem hiN
          generalize N[i] = s at hc htk hmem
          obtain ⟨lw, hlw, hlws⟩ := (hNm.out s).1 hmem
          have hsz : (txt s).size ≤ maxLen := by rw [← hlws]; exact (hz.out lw hlw).1
          obtain ⟨o1, _, _, _⟩ := hown.out s
          have o2 : OwI wr (findS E s).a (findS E s).n (findS E s).c (sumsOf ls s) := Ow.mod0 o1 (hmw33.out.trans hm)
          have hMi := MapAt.mod hM3.out hm (fun h => h)
          have lk := map_look_run 72 9 58 Try.underlying72 Try.underlying9 (z := .slice none 0 0) (w := wr) (by rfl) w.heap.size (E.map nmv) hMi (txt s) hsz
          rw [show (txt s).data.toList = s from rfl, find_nmv] at lk
          have hsl : (sumsOf ls s).length ≤ 1000 := by
            unfold sumsOf
            rw [List.length_map]
            have := List.length_filter_le (fun m : Lg => m.n == s) ls
            omega
          have hIs : I64s (sumsOf ls s) := by
            intro y hy
            unfold sumsOf at hy
            obtain ⟨m, hm', rfl⟩ := List.mem_map.1 hy
            exact (hz.out m (List.mem_filter.1 hm').1).2
          have hnn := OwI.len o2
          have ct := Lib.hid (total_ok wr (findS E s).a (findS E s).n (findS E s).c (sumsOf ls s) (Ow.rd o2) (by omega) hIs)
          have hout := outL_snoc ls (N.take i) s
          rw [← htk] at hout
          have hall2 : inI (isum (sumsOf ls s)) = true → ∀ y ∈ N.take (i + 1), inI (isum (sumsOf ls y)) = true := fun h0 y hy => by
            rw [htk, List.mem_append] at hy
            rcases hy with hy | hy
            · exact hall y hy
            · simp at hy; rw [hy]; exact h0
          have hbad : inI (isum (sumsOf ls s)) = false → ∃ s ∈ N, inI (isum (sumsOf ls s)) = false := fun h0 => ⟨s, hmem, h0⟩
          unfold SV.v at lk
          have hol : (outL ls (N.take i)).length ≤ 1000 := by
            unfold outL
            rw [List.length_map]
            have := List.length_filter_le (fun s => !(isum (sumsOf ls s) == 0)) (N.take i)
            rw [List.length_take] at this
            omega
          generalize findS E s = fs at *
          obtain ⟨fa, fn, fc⟩ := fs
          dsimp only at lk ct
          generalize isum (sumsOf ls s) = t at *
          cases hti : inI t with
          | false =>
            rw [sumR_no hti] at ct
            have hb2 := hbad hti
            clear hbad hall2 o1 o2
            replace how := Lib.hid how
            replace hf := Lib.hid hf
            replace hall := Lib.hid hall
            replace hm := Lib.hid hm
            replace htk := Lib.hid htk
            replace hmem := Lib.hid hmem
            replace hout := Lib.hid hout
            replace hb2 := Lib.hid hb2
            replace hMi := Lib.hid hMi
            replace hlw := Lib.hid hlw
            replace hlws := Lib.hid hlws
            replace hIs := Lib.hid hIs
            replace hnn := Lib.hid hnn
            replace hol := Lib.hid hol
            go_wp2_with fail
            refine ct.out.mono ?_
            rintro e w5 ⟨rfl, rfl⟩
            dsimp only
            go_wp2_with fail
            go_ret2
            exact ⟨N, hNs.out, hNm.out, hmw3.out.trans hm.out, .inr ⟨hb2.out, rfl⟩⟩
          | true =>
            rw [sumR_yes hti] at ct
            have ha2 := hall2 hti
            clear hbad hall2 o1 o2
            by_cases ht0 : t = 0
            · subst ht0
              rw [if_pos rfl] at hout
              replace how := Lib.hid how
              replace hf := Lib.hid hf
              replace hall := Lib.hid hall
              replace hm := Lib.hid hm
              replace htk := Lib.hid htk
              replace hmem := Lib.hid hmem
              replace hout := Lib.hid hout
              replace ha2 := Lib.hid ha2
              replace hMi := Lib.hid hMi
              replace hlw := Lib.hid hlw
              replace hlws := Lib.hid hlws
              replace hIs := Lib.hid hIs
              replace hnn := Lib.hid hnn
              replace hol := Lib.hid hol
              go_wp2_with fail
              refine ct.out.mono ?_
              rintro e w5 ⟨rfl, rfl⟩
              dsimp only
              go_wp2_with fail
              go_roundw
              case rel => exact ⟨i + 1, by go_num, by omega, A', c', by rw [hout.out], by rw [hout.out]; exact how.out, hf.out, ha2.out, hm.out⟩
              case measure => simp [intOf]; omega
            · rw [if_neg ht0] at hout
              have e1 : (t == 0) = false := by simpa using ht0
              obtain ⟨ol, holl⟩ : ∃ n, (outL ls (N.take i)).length = n := ⟨_, rfl⟩
              rw [holl] at how hol ⊢
              replace how := Lib.hid how
              replace hf := Lib.hid hf
              replace hall := Lib.hid hall
              replace hm := Lib.hid hm
              replace htk := Lib.hid htk
              replace hmem := Lib.hid hmem
              replace hout := Lib.hid hout
              replace ha2 := Lib.hid ha2
              replace hMi := Lib.hid hMi
              replace hlw := Lib.hid hlw
              replace hlws := Lib.hid hlws
              replace hIs := Lib.hid hIs
              replace hnn := Lib.hid hnn
              replace ht0 := Lib.hid ht0
              replace holl := Lib.hid holl
              go_wp2_with fail
              refine ct.out.mono ?_
              rintro e w5 ⟨rfl, rfl⟩
              dsimp only
              go_wp2_with (at_builtin; go_loud (refine appL rfl (.tmp 54) (.tmp 58) rfl rfl (Ow.mod0 how.out ((Mod.refl none_ _).alloc _)) rfl (rdl_one _ _ _ rfl ⟨s, t⟩) (by omega) ?_; intro A2 c2 w6 ho2 hm2 hA2; replace ho2 := Lib.hid ho2; replace hm2 := Lib.hid hm2; replace hA2 := Lib.hid hA2))
              go_roundw
              case rel =>
                have hl2 : (outL ls (N.take (i + 1))).length = ol + 1 := by rw [hout.out, List.length_append, holl.out]; rfl
                refine ⟨i + 1, by go_num, by omega, A2, c2, by rw [hl2], ?_, Fresh.app hf.out (hm.out.alloc _).size hA2.out, ha2.out, (hm.out.alloc _).app hf.out hm2.out⟩
                rw [hl2, hout.out]; exact ho2.out
              case measure => simp [intOf]; omega
        · have hfullN : N.take i = N := List.take_of_length_le (by rw [hNl.out]; omega)
          rw [hfullN] at how hall ⊢
          replace how := Lib.hid how
          replace hf := Lib.hid hf
          replace hall := Lib.hid hall
          replace hm := Lib.hid hm
          go_wp2_with fail
          go_ret2
          exact ⟨N, hNs.out, hNm.out, hmw3.out.trans hm.out, .inl ⟨hall.out, A', c', rfl, how.out, hf.out.later hmw3.out.size⟩⟩
end Go.Proofs.Ytaohgefpnndjcaa
