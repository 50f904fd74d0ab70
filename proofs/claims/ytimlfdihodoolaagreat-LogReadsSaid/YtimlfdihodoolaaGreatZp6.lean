import Derived.Test.YtimlfdihodoolaaGreatZp5
import Derived.Test.YtimlfdihodoolaaGreatZp1
/-
  The contracts of chart.Name and of the reference's Name.
-/
namespace Go.Proofs.YtimlfdihodoolaaGreat
set_option linter.unusedVariables false
set_option linter.unusedSimpArgs false
open Go.RowKit
def isSign (b : UInt8) : Bool := (97 ≤ b && b ≤ 122) || (48 ≤ b && b ≤ 57)
def nameB (l : List UInt8) : Bool := l.all isSign && decide (0 < l.length) && decide (l.length ≤ 8)
theorem sign_ix_nat : ∀ n, n < 256 → (decide (Lib.indexByte signs.data.toList n.toUInt8 < 0)) = !isSign n.toUInt8 := by decide +kernel
theorem sign_ix (b : UInt8) : (decide (Lib.indexByte signs.data.toList b < 0)) = !isSign b := by
  have := sign_ix_nat b.toNat b.toNat_lt
  rwa [show b.toNat.toUInt8 = b by simp] at this
theorem wide_not_sign (b : UInt8) (h : 128 ≤ b.toNat) : isSign b = false := by
  unfold isSign
  have h1 : ¬ b ≤ 122 := by rw [UInt8.le_iff_toNat_le]; show ¬ b.toNat ≤ 122; omega
  have h2 : ¬ b ≤ 57 := by rw [UInt8.le_iff_toNat_le]; show ¬ b.toNat ≤ 57; omega
  simp [h1, h2]
theorem name_no (s : ByteArray) (i : Nat) (h : i < s.size) (hs : isSign s[i] = false) : nameB s.data.toList = false := by
  unfold nameB
  have : s.data.toList.all isSign = false := by
    rw [List.all_eq_false]
    exact ⟨s[i], Array.getElem_mem_toList (xs := s.data) h, by rw [hs]; simp⟩
  rw [this] <;> rfl
theorem name_all (s : ByteArray) (h : ∀ i (h : i < s.size), isSign s[i] = true) : nameB s.data.toList = (decide (0 < s.size) && decide (s.size ≤ 8)) := by
  unfold nameB
  have e : s.data.toList.length = s.size := rfl
  have : s.data.toList.all isSign = true := by
    rw [List.all_eq_true]
    intro b hb
    obtain ⟨i, hi, rfl⟩ := List.getElem_of_mem hb
    exact h i hi
  rw [this, e, Bool.true_and]
theorem toList_empty (s : ByteArray) : s.toList.isEmpty = decide (s.size = 0) := by
  show (txt s.data.toList).toList.isEmpty = _
  rw [txt_toList]
  have e : s.data.toList.length = s.size := rfl
  rw [← e]
  cases s.data.toList <;> simp
theorem sget (s : ByteArray) (i : Nat) (h : i < s.size) : (s.get! i) = s[i] := by
  have := get_at s i h
  simpa using this
set_option maxRecDepth 1000000 in
set_option maxHeartbeats 2000000 in
theorem name_ok (w : World) (s : ByteArray) : Calls Tryz.prog 108 #[.string s] w fun e w' => e = .returned (.bool (nameB s.data.toList)) ∧ Mod none_ w w' := by
  have sg : (⟨#[97, 98, 99, 100, 101, 102, 103, 104, 105, 106, 107, 108, 109, 110, 111, 112, 113, 114, 115, 116, 117, 118, 119, 120, 121, 122, 48, 49, 50, 51, 52, 53, 54, 55, 56, 57]⟩ : ByteArray) = signs := rfl
  have ca := Lib.hid (fun (W : World) (r : Nat) (h : r < 128) => Tryz.strings_IndexRune_ascii signs (r : Int) W (by omega) (by omega))
  have cw := Lib.hid (fun (W : World) (r : Nat) h1 h2 => ixr_any W r h1 h2)
  go_enter Tryz.func108, Tryz.ntmps108
  go_wp2_with fail
  go_loopw [] (fun wr => ∃ pos : Nat, wr.heap[w.heap.size]? = some (.stringIter s pos) ∧ Mod none_ w wr ∧ pos ≤ s.size ∧ ∀ i (h : i < s.size), i < pos → isSign s[i] = true) (fun wr => s.size - wr.iterPos w.heap.size)
  case atStart =>
    refine ⟨0, World.iter_heap w s 0, ?_, by omega, fun i _ h => by omega⟩
    exact (Mod.refl none_ w).alloc _
  case round =>
    obtain ⟨pos, hit, hm, hp, hall⟩ := hrel
    have hsz : w.heap.size < wr.heap.size := (Array.getElem?_eq_some_iff.1 hit).1
    by_cases hlt : pos < s.size
    · have hnx : ∀ ty, (Instr.next (.pointer (some ⟨w.heap.size, 0, none⟩)) true ty).run Tryz.prog wr = _ := fun ty => Lib.run_next_any_at wr w.heap.size s pos ty hit hlt
      have hm2 : Mod none_ w (wr.iterAt w.heap.size s (pos + (Utf8.decode s pos).2)) := Mod.of_below (Lib.below_iterAt hm.below0 (k := w.heap.size) (by omega) s _)
      have hit2 := Lib.iterAt_heap wr w.heap.size s pos (pos + (Utf8.decode s pos).2) hit
      by_cases hb : (s[pos]'hlt).toNat < 128
      · rw [decode_ascii s pos hlt hb] at hnx hm2 hit2
        have hix := sign_ix (s[pos]'hlt)
        have hc := Lib.hid (fun W => ca.out W (s[pos]'hlt).toNat hb)
        have eb : (((s[pos]'hlt).toNat : Int).toNat).toUInt8 = s[pos]'hlt := by simp
        rw [eb] at hc
        cases hs : isSign (s[pos]'hlt) with
        | true =>
          rw [hs] at hix
          have hix2 : ¬ (Lib.indexByte signs.data.toList (s[pos]'hlt) < 0) := by simpa using hix
          have hnext : ∀ i (h : i < s.size), i < pos + 1 → isSign s[i] = true := by
            intro i h h1
            by_cases e : i = pos
            · subst e; exact hs
            · exact hall i h (by omega)
          generalize Lib.indexByte signs.data.toList (s[pos]'hlt) = v at *
          unfold signs at hc
          replace hall := Lib.hid hall
          replace hm := Lib.hid hm
          replace hit := Lib.hid hit
          replace hm2 := Lib.hid hm2
          replace hit2 := Lib.hid hit2
          replace hix := Lib.hid hix
          replace hnext := Lib.hid hnext
          replace hs := Lib.hid hs
          replace hb := Lib.hid hb
          replace eb := Lib.hid eb
          go_wp2_with fail
          refine (hc.out _).mono ?_
          rintro e w1 ⟨rfl, rfl⟩
          dsimp only
          go_wp2_with fail
          go_roundw
          case rel => exact ⟨pos + 1, hit2.out, hm2.out, by omega, hnext.out⟩
          case measure => simp only [World.iterPos, hit2.out, hit.out]; omega
        | false =>
          rw [hs] at hix
          have hix2 : Lib.indexByte signs.data.toList (s[pos]'hlt) < 0 := by simpa using hix
          have hno := name_no s pos hlt hs
          generalize Lib.indexByte signs.data.toList (s[pos]'hlt) = v at *
          unfold signs at hc
          replace hall := Lib.hid hall
          replace hm := Lib.hid hm
          replace hit := Lib.hid hit
          replace hm2 := Lib.hid hm2
          replace hit2 := Lib.hid hit2
          replace hix := Lib.hid hix
          replace hs := Lib.hid hs
          replace hb := Lib.hid hb
          replace eb := Lib.hid eb
          go_wp2_with fail
          refine (hc.out _).mono ?_
          rintro e w1 ⟨rfl, rfl⟩
          dsimp only
          go_wp2_with fail
          go_ret
          refine ⟨?_, hm2.out⟩
          rw [hno] <;> rfl
      · have hd := decode_high s pos hlt (by omega)
        have hdv : (Utf8.decode s pos).1 < 55296 ∨ (57343 < (Utf8.decode s pos).1 ∧ (Utf8.decode s pos).1 ≤ 1114111) := by
          rw [Lib.decode_at]
          exact Lib.decodeN_valid _ _ _ _ _ (UInt8.toNat_lt _)
        have hc := Lib.hid (fun W => cw.out W _ hd.1 hdv)
        have hno := name_no s pos hlt (wide_not_sign _ (by omega))
        generalize (Utf8.decode s pos).1 = r at *
        generalize (Utf8.decode s pos).2 = k at *
        unfold signs at hc
        replace hall := Lib.hid hall
        replace hm := Lib.hid hm
        replace hit := Lib.hid hit
        replace hm2 := Lib.hid hm2
        replace hit2 := Lib.hid hit2
        replace hd := Lib.hid hd
        replace hdv := Lib.hid hdv
        replace hb := Lib.hid hb
        go_wp2_with fail
        refine (hc.out _).mono ?_
        rintro e w1 ⟨rfl, hm3⟩
        dsimp only
        replace hm3 := Lib.hid hm3
        go_wp2_with fail
        go_ret
        refine ⟨?_, hm2.out.then hm3.out (fun _ _ h => h)⟩
        rw [hno] <;> rfl
    · have hnx : ∀ ty, (Instr.next (.pointer (some ⟨w.heap.size, 0, none⟩)) true ty).run Tryz.prog wr = _ := fun ty => Lib.run_next_end_at wr w.heap.size s pos ty hit hlt
      have hres := name_all s (fun i h => hall i h (by omega))
      have he := toList_empty s
      by_cases hz : s.size = 0
      · rw [decide_eq_true hz] at he
        replace hall := Lib.hid hall
        replace hm := Lib.hid hm
        replace hit := Lib.hid hit
        go_wp2_with fail
        go_ret
        refine ⟨?_, hm.out⟩
        rw [hres, hz] <;> rfl
      · rw [decide_eq_false hz] at he
        replace hall := Lib.hid hall
        replace hm := Lib.hid hm
        replace hit := Lib.hid hit
        go_wp2_with fail
        go_ret
        refine ⟨?_, hm.out⟩
        rw [hres, decide_eq_true (show 0 < s.size by omega), Bool.true_and]
        show Ending.returned (.bool (decide ((s.size : Int) ≤ 8))) = _
        congr 2
        exact decide_eq_decide.2 (by omega)
end Go.Proofs.YtimlfdihodoolaaGreat
/-
  A map from texts to truths, as the set of those that were put.
-/
namespace Go.Proofs.YtimlfdihodoolaaGreat
set_option linter.unusedVariables false
set_option linter.unusedSimpArgs false
open Go.RowKit
theorem find_insL_no {x : NameV} {p : NameV → Bool} (h : p x = false) : ∀ L : List NameV, (insL x L).find? p = L.find? p
  | [] => by simp [insL, h]
  | y :: L => by
    unfold insL
    split
    · rw [List.find?_cons, h]
    · rw [List.find?_cons, List.find?_cons, find_insL_no h L]
theorem find_insL_yes {x : NameV} {p : NameV → Bool} (h : p x = true) : ∀ L : List NameV, (∀ y ∈ L, p y = false) → (insL x L).find? p = some x
  | [], _ => by simp [insL, h]
  | y :: L, hL => by
    unfold insL
    split
    · rw [List.find?_cons, h]
    · rw [List.find?_cons, hL y (by simp), find_insL_yes h L fun z hz => hL z (by simp [hz])]
theorem findL_put (L : List NameV) (s : List UInt8) (v : Value) (s' : List UInt8) : findL (putL s v L) s' = if s' = s then some v else findL L s' := by
  unfold findL putL
  by_cases h : s' = s
  · subst h
    rw [if_pos rfl, find_insL_yes (by simp)]
    · rfl
    · intro y hy
      have := (List.mem_filter.1 hy).2
      simpa using this
  · rw [if_neg h, find_insL_no (by simp; exact fun e => h e.symm)]
    congr 1
    induction L with
    | nil => rfl
    | cons y L ih =>
      rw [List.filter_cons]
      by_cases e : y.1 = s
      · rw [if_neg (by simp [e]), List.find?_cons, ih, show (y.1 == s') = false by simp; rw [e]; exact fun e2 => h e2.symm]
      · rw [if_pos (by simp [e]), List.find?_cons, List.find?_cons, ih]
theorem insL_length (x : NameV) : ∀ L : List NameV, (insL x L).length = L.length + 1
  | [] => rfl
  | y :: L => by
    unfold insL
    split
    · rfl
    · rw [List.length_cons, insL_length x L, List.length_cons]
theorem putL_length (L : List NameV) (s : List UInt8) (v : Value) : (putL s v L).length ≤ L.length + 1 := by
  unfold putL
  rw [insL_length]
  have := List.length_filter_le (fun p : NameV => !(p.1 == s)) L
  omega
def SetAt (w : World) (b : Nat) (N : List (List UInt8)) : Prop := ∃ L, MapAt w 9 b L ∧ L.length ≤ N.length ∧ ∀ s, (findL L s).getD (.bool false) = .bool (decide (s ∈ N))
theorem SetAt.made (w : World) : SetAt (w.alloc (.map #[] 0)) w.heap.size [] := ⟨[], MapAt.made w _, Nat.le_refl _, fun s => by simp [findL]⟩
theorem SetAt.mod {F : Nat → Prop} {w w' : World} {b : Nat} {N : List (List UInt8)} (h : SetAt w b N) (hm : Mod F w w') (hb : ¬ F b) : SetAt w' b N := by
  obtain ⟨L, h1, h2, h3⟩ := h
  exact ⟨L, h1.mod hm hb, h2, h3⟩
theorem SetAt.lt {w : World} {b : Nat} {N : List (List UInt8)} (h : SetAt w b N) : b < w.heap.size := by
  obtain ⟨L, h1, _⟩ := h
  exact h1.lt
theorem set_put {L : List NameV} {N : List (List UInt8)} (h : ∀ s, (findL L s).getD (.bool false) = .bool (decide (s ∈ N))) (x : List UInt8) : ∀ s, (findL (putL x (.bool true) L) s).getD (.bool false) = .bool (decide (s ∈ N ++ [x])) := by
  intro s
  rw [findL_put]
  by_cases e : s = x
  · rw [if_pos e]; simp [e]
  · rw [if_neg e, h s]; simp [e]
end Go.Proofs.YtimlfdihodoolaaGreat
/-
  order.legs, period, held.
-/
namespace Go.Proofs.YtimlfdihodoolaaGreat
set_option linter.unusedVariables false
set_option linter.unusedSimpArgs false
open Go.RowKit
def okLeg (l : Lg) : Bool := nameB l.n && !(l.x == 0)
def legsB (ls : List Lg) : Bool := ls.all okLeg && decide ((ls.map fun l => l.n).Nodup) && decide (2 ≤ ls.length) && decide (ls.length ≤ 6)
theorem legsB_bad {ls : List Lg} {l : Lg} (h : l ∈ ls) (h0 : okLeg l = false) : legsB ls = false := by
  unfold legsB
  have : ls.all okLeg = false := by rw [List.all_eq_false]; exact ⟨l, h, by rw [h0]; simp⟩
  rw [this] <;> rfl
theorem legsB_two {ls : List Lg} {j : Nat} {l : Lg} (h : ls[j]? = some l) (h0 : l.n ∈ (ls.take j).map fun l => l.n) : legsB ls = false := by
  unfold legsB
  have : decide ((ls.map fun l => l.n).Nodup) = false := by
    rw [decide_eq_false_iff_not]
    intro hn
    have hj : j < ls.length := by
      rcases Nat.lt_or_ge j ls.length with h1 | h1
      · exact h1
      · rw [List.getElem?_eq_none h1] at h; cases h
    rw [List.getElem?_eq_getElem hj] at h
    injection h with h
    have e : ls = ls.take j ++ ls[j] :: ls.drop (j + 1) := by rw [← List.drop_eq_getElem_cons hj, List.take_append_drop]
    rw [e, List.map_append, List.nodup_append] at hn
    exact hn.2.2 l.n h0 l.n (by rw [h]; simp) rfl
  rw [this, Bool.and_false] <;> rfl
set_option maxRecDepth 100000 in
theorem period_ok (w : World) (x : Int) : Calls Tryz.prog 114 #[.int .i64 x] w fun e w' => e = .returned (.bool (decide (1 ≤ x ∧ x ≤ 1000))) ∧ w = w' := by
  go_enter Tryz.func114, Tryz.ntmps114
  go_wp2_with fail
  all_goals
    go_ret
    first | (simp_all; done) | (simp; omega)
set_option maxRecDepth 100000 in
theorem held_ok (w : World) (x : Int) : Calls Tryz.prog 119 #[.int .i64 x] w fun e w' => e = .returned (.bool (decide (1 ≤ x ∧ x ≤ 9999))) ∧ w = w' := by
  go_enter Tryz.func119, Tryz.ntmps119
  go_wp2_with fail
  all_goals
    go_ret
    first | (simp_all; done) | (simp; omega)
set_option maxRecDepth 100000 in
theorem zeroB_run (W : World) : (zeroValue 4).run Tryz.prog W = .ok (.bool false) W := by rfl
set_option maxRecDepth 100000 in
set_option maxHeartbeats 4000000 in
theorem legs_ok (w : World) (A : Option Addr) (n c : Nat) (ls : List Lg) (h : RdL w A n ls) (hn : n ≤ 140737488355328) (hz : ∀ l ∈ ls, (txt l.n).size ≤ maxLen) :
    Calls Tryz.prog 113 #[.slice A n c] w fun e w' => e = .returned (.bool (legsB ls)) ∧ Mod none_ w w' := by
  have hl := h.len
  have hmk := fun W => run_makeMap (P := Tryz.prog) 155 W
  have cn := Lib.hid (fun W s => name_ok W s)
  replace h := Lib.hid h
  replace hz := Lib.hid hz
  replace hl := Lib.hid hl
  go_enter Tryz.func113, Tryz.ntmps113
  go_wp2_with fail
  have hw0 : w.heap.size ≤ (w.alloc (.map #[] 0)).heap.size := by simp
  go_loopg [9] n (fun k x wr => ∃ j : Nat, x = .int .i64 j ∧ j + k = n ∧ SetAt wr w.heap.size ((ls.take j).map fun l => l.n) ∧ (∀ l ∈ ls.take j, okLeg l = true) ∧ ((ls.take j).map fun l => l.n).Nodup ∧ Mod none_ w wr)
  case atStart => exact ⟨0, rfl, by omega, SetAt.made w, (fun l h => by cases h), List.nodup_nil, (Mod.refl _ _).alloc _⟩
  case round =>
    obtain ⟨j, rfl, hj, hM, hall, hnd, hm⟩ := hrel
    by_cases hlt : j < n
    · obtain ⟨g, o, l, rfl, hmem, hjl, y1, y2⟩ := rdl_get (h.out.mod0 hm) hlt
      have hlok := hz.out l hmem
      have htk : ls.take (j + 1) = ls.take j ++ [l] := by
        have hjlt : j < ls.length := by rw [hl.out]; exact hlt
        rw [List.getElem?_eq_getElem hjlt] at hjl
        injection hjl with hjl
        rw [List.take_succ_eq_append_getElem hjlt, hjl]
      have hno : okLeg l = false → legsB ls = false := legsB_bad hmem
      have cname := Lib.hid (fun W => cn.out W (txt l.n))
      rw [show (txt l.n).data.toList = l.n from rfl] at cname
      have hbl := hM.lt
      obtain ⟨L, hL, hLl, hLs⟩ := hM
      have hlen : ((ls.take j).map fun l => l.n).length ≤ n := by rw [List.length_map, List.length_take]; omega
      by_cases hseen : l.n ∈ (ls.take j).map fun l => l.n
      · have hr : Hid (legsB ls = false) := Lib.hid (legsB_two hjl hseen)
        have hlk : (findL L l.n).getD (.bool false) = .bool true := by rw [hLs, decide_eq_true hseen]
        clear hno
        replace hL := Lib.hid hL
        replace hLs := Lib.hid hLs
        replace hall := Lib.hid hall
        replace hnd := Lib.hid hnd
        replace hm := Lib.hid hm
        replace hmem := Lib.hid hmem
        replace hjl := Lib.hid hjl
        replace hlok := Lib.hid hlok
        replace htk := Lib.hid htk
        replace hseen := Lib.hid hseen
        replace hlk := Lib.hid hlk
        go_wp2_with (refine map_look _ rfl (.tmp 13) (.tmp 15) _ rfl 9 4 Tryz.underlying155 Tryz.underlying9 (zeroB_run _) w.heap.size _ rfl (hL.out.alloc _) (txt l.n) hlok.out rfl ?_; rw [show (txt l.n).data.toList = l.n from rfl, hlk.out])
        go_ret
        exact ⟨by rw [hr.out] <;> rfl, hm.out.alloc _⟩
      · have hlk : (findL L l.n).getD (.bool false) = .bool false := by rw [hLs, decide_eq_false hseen]
        cases hb : nameB l.n with
        | false =>
          rw [hb] at cname
          have hr := Lib.hid (hno (by unfold okLeg; rw [hb] <;> rfl))
          clear hno
          replace hL := Lib.hid hL
          replace hLs := Lib.hid hLs
          replace hall := Lib.hid hall
          replace hnd := Lib.hid hnd
          replace hm := Lib.hid hm
          replace hmem := Lib.hid hmem
          replace hjl := Lib.hid hjl
          replace hlok := Lib.hid hlok
          replace htk := Lib.hid htk
          replace hseen := Lib.hid hseen
          replace hlk := Lib.hid hlk
          replace hb := Lib.hid hb
          go_wp2_with (refine map_look _ rfl (.tmp 13) (.tmp 15) _ rfl 9 4 Tryz.underlying155 Tryz.underlying9 (zeroB_run _) w.heap.size _ rfl (hL.out.alloc _) (txt l.n) hlok.out rfl ?_; rw [show (txt l.n).data.toList = l.n from rfl, hlk.out])
          refine (cname.out _).mono ?_
          rintro e w1 ⟨rfl, hm1⟩
          dsimp only
          have hmm := Lib.hid ((hm.out.alloc _).trans hm1)
          clear hm1
          go_wp2_with fail
          go_ret
          exact ⟨by rw [hr.out] <;> rfl, hmm.out⟩
        | true =>
          rw [hb] at cname
          by_cases hx0 : l.x = 0
          · have hr := Lib.hid (hno (by unfold okLeg; rw [hb, hx0] <;> rfl))
            rw [hx0] at y2
            clear hno
            replace hL := Lib.hid hL
            replace hLs := Lib.hid hLs
            replace hall := Lib.hid hall
            replace hnd := Lib.hid hnd
            replace hm := Lib.hid hm
            replace hmem := Lib.hid hmem
            replace hjl := Lib.hid hjl
            replace hlok := Lib.hid hlok
            replace htk := Lib.hid htk
            replace hseen := Lib.hid hseen
            replace hlk := Lib.hid hlk
            replace hb := Lib.hid hb
            replace hx0 := Lib.hid hx0
            go_wp2_with (refine map_look _ rfl (.tmp 13) (.tmp 15) _ rfl 9 4 Tryz.underlying155 Tryz.underlying9 (zeroB_run _) w.heap.size _ rfl (hL.out.alloc _) (txt l.n) hlok.out rfl ?_; rw [show (txt l.n).data.toList = l.n from rfl, hlk.out])
            refine (cname.out _).mono ?_
            rintro e w1 ⟨rfl, hm1⟩
            dsimp only
            have q1 : w1.cell? ⟨wr.heap.size, 1, none⟩ = some (.int .i64 0) := ((Blk.new wr 96 #[.string (txt l.n), .int .i64 0]).mod hm1 (fun h => h)).cell_ rfl
            have hmm := Lib.hid ((hm.out.alloc _).trans hm1)
            clear hm1
            go_wp2_with fail
            go_ret
            exact ⟨by rw [hr.out] <;> rfl, hmm.out⟩
          · have hx1 : (l.x == 0) = false := by simpa using hx0
            have hyes : okLeg l = true := by unfold okLeg; rw [hb, hx1] <;> rfl
            clear hno
            replace hL := Lib.hid hL
            replace hLs := Lib.hid hLs
            replace hall := Lib.hid hall
            replace hnd := Lib.hid hnd
            replace hm := Lib.hid hm
            replace hmem := Lib.hid hmem
            replace hjl := Lib.hid hjl
            replace hlok := Lib.hid hlok
            replace htk := Lib.hid htk
            replace hseen := Lib.hid hseen
            replace hlk := Lib.hid hlk
            replace hb := Lib.hid hb
            replace hx0 := Lib.hid hx0
            replace hyes := Lib.hid hyes
            go_wp2_with (refine map_look _ rfl (.tmp 13) (.tmp 15) _ rfl 9 4 Tryz.underlying155 Tryz.underlying9 (zeroB_run _) w.heap.size _ rfl (hL.out.alloc _) (txt l.n) hlok.out rfl ?_; rw [show (txt l.n).data.toList = l.n from rfl, hlk.out])
            refine (cname.out _).mono ?_
            rintro e w1 ⟨rfl, hm1⟩
            dsimp only
            have hB := (Blk.new wr 96 #[.string (txt l.n), .int .i64 l.x]).mod hm1 (fun h => h)
            have q0 : w1.cell? ⟨wr.heap.size, 0, none⟩ = some (.string (txt l.n)) := hB.cell_ rfl
            have q1 : w1.cell? ⟨wr.heap.size, 1, none⟩ = some (.int .i64 l.x) := hB.cell_ rfl
            have hL1 := Lib.hid ((hL.out.alloc _).mod hm1 (fun h => h))
            have hmm := Lib.hid ((hm.out.alloc _).trans hm1)
            clear hm1 hB
            go_wp2_with (refine map_store _ rfl (.tmp 28) (.tmp 30) (.const (.bool true)) _ rfl 9 4 Tryz.underlying155 Tryz.underlying9 w.heap.size _ rfl hL1.out (by simp only [maxLen]; omega) (txt l.n) hlok.out rfl (.bool true) rfl ?_; intro w2 hM2 hm2 hs2; replace hM2 := Lib.hid hM2; replace hm2 := Lib.hid hm2; replace hs2 := Lib.hid hs2)
            go_roundg (gk - 1)
            case measure => omega
            case rel =>
              refine ⟨j + 1, by go_num, by omega, ⟨_, hM2.out, ?_, ?_⟩, ?_, ?_, hmm.out.then hm2.out (fun i hi e => by have e2 : i = w.heap.size := e; omega)⟩
              · rw [htk.out, List.map_append, List.length_append]
                have := putL_length L (txt l.n).data.toList (.bool true)
                simp only [List.map_cons, List.map_nil, List.length_cons, List.length_nil]
                omega
              · rw [htk.out, List.map_append]
                exact set_put hLs.out l.n
              · intro y hy
                rw [htk.out, List.mem_append] at hy
                rcases hy with hy | hy
                · exact hall.out y hy
                · simp at hy; subst hy; exact hyes.out
              · rw [htk.out, List.map_append, List.nodup_append]
                refine ⟨hnd.out, by simp, fun a ha b hb2 e => ?_⟩
                simp at hb2
                subst hb2
                subst e
                exact hseen.out ha
    · obtain rfl : j = n := by omega
      rw [List.take_of_length_le (show ls.length ≤ j by rw [hl.out]; exact Nat.le_refl _)] at hall hnd
      have hr : legsB ls = (decide (2 ≤ j) && decide (j ≤ 6)) := by
        unfold legsB
        rw [List.all_eq_true.2 hall, decide_eq_true hnd, hl.out] <;> rfl
      replace hM := Lib.hid hM
      replace hall := Lib.hid hall
      replace hnd := Lib.hid hnd
      replace hm := Lib.hid hm
      replace hr := Lib.hid hr
      go_wp2_with fail
      all_goals
        go_ret
        refine ⟨?_, hm.out⟩
        rw [hr.out]
        refine congrArg (fun b => Ending.returned (Value.bool b)) (?_ : (_ : Bool) = _)
        rw [Bool.eq_iff_iff]
        simp
        omega
end Go.Proofs.YtimlfdihodoolaaGreat
/-
  A map from numbers to any values: its datum exactly.
-/
namespace Go.Proofs.YtimlfdihodoolaaGreat
set_option linter.unusedVariables false
set_option linter.unusedSimpArgs false
open Go.RowKit
open Go.Maps (Keyed int_keyed)
theorem mapF_store_run {w : World} (t : TypeId) (k e : TypeId) (ht : Tryz.prog.underlying t = some (.map k e)) (hk : Tryz.prog.underlying k = some (.int .i64))
    (b n : Nat) (D : DataW Value) (h : w.ownsMap Tryz.prog k VR b n D) (hroom : n + 1 < maxLen) (s : Int) (hs : (Lit.int .i64 s).wf = true) (val : Value) :
    ∃ w', (Instr.mapUpdate t (.map (some b)) (.int .i64 s) val).run Tryz.prog w = .ok () w' ∧ (∃ n', n' ≤ n + 1 ∧ w'.ownsMap Tryz.prog k VR b n' (D.put (.int .i64 s) (.held val))) ∧ Mod (· = b) w w' ∧ w'.heap.size = w.heap.size := by
  obtain ⟨w', hrun, h1, h2⟩ := h.store (int_keyed hk) ht (by omega) (Go.Maps.keyOf_int_mk hk hs) (d := .held val) (ps := []) (show VR val = some (.held val, []) from rfl)
  refine ⟨w', hrun, ⟨_, Nat.le_refl _, h1⟩, (Mod.of_grown h2.grown).mono fun i hi => by cases hi; rfl, ?_⟩
  obtain ⟨es, c, es', c', _, rfl⟩ := h2
  simp [ChangeMaps.setBlock]
theorem mapF_look_run {w : World} (t : TypeId) (k e : TypeId) (ht : Tryz.prog.underlying t = some (.map k e)) (hk : Tryz.prog.underlying k = some (.int .i64))
    {z : Value} (hz : (zeroValue e).run Tryz.prog w = .ok z w) (b n : Nat) (D : DataW Value) (h : w.ownsMap Tryz.prog k VR b n D) (s : Int) (hs : (Lit.int .i64 s).wf = true) (v : Value) (hv : D.atKey (.int .i64 s) (.held z) = .held v) (f : Bool) (hf : Maps.has D (.int .i64 s) = f) :
    (Instr.lookup t (.map (some b)) (.int .i64 s) true).run Tryz.prog w = .ok (.tuple #[v, .bool f]) w := by
  obtain ⟨v', ps, hrun, h2⟩ := h.look_ok (int_keyed hk) ht hz (zd := .held z) (zp := []) rfl (Go.Maps.keyOf_int_mk hk hs)
  rw [hv] at h2
  have : v' = v := by simp [VR] at h2; exact h2.1
  rw [this, hf] at hrun
  exact hrun
theorem mapF_insert (w : World) {ops : Array Oper} {rest : List Oper} {o : Oper} {a : Act} {Q : Exit → Act → World → Prop} (hg : o.guard = none) (m x v : Operand) (t : TypeId) (hop : o.op = Op.insert t m x v) (k e : TypeId) (ht : Tryz.prog.underlying t = some (.map k e)) (hk : Tryz.prog.underlying k = some (.int .i64))
    (b n : Nat) (D : DataW Value) (hm : a.eval m = .map (some b)) (h : w.ownsMap Tryz.prog k VR b n D) (hroom : n + 1 < maxLen) (s : Int) (hs : (Lit.int .i64 s).wf = true) (hx : a.eval x = .int .i64 s) (val : Value) (hv : a.eval v = val)
    (hK : ∀ w' n', n' ≤ n + 1 → w'.ownsMap Tryz.prog k VR b n' (D.put (.int .i64 s) (.held val)) → Mod (· = b) w w' → w'.heap.size = w.heap.size → wpList Tryz.prog ops Q rest (a.put o.dst undef) w') :
    wpList Tryz.prog ops Q (o :: rest) a w := by
  refine wpList_plain hg fun K' hK' => ?_
  obtain ⟨w', hrun, ⟨n', hn', h1⟩, hm', hs'⟩ := mapF_store_run t k e ht hk b n D h hroom s hs val
  unfold Oper.wp
  simp [execOp, hop, hm, hx, hv, hrun, Result.andThen]
  exact hK' _ _ (hK w' n' hn' h1 hm' hs')
end Go.Proofs.YtimlfdihodoolaaGreat
/-
  order's shapes: what an order of a kind may have, and whether it fits.
-/
namespace Go.Proofs.YtimlfdihodoolaaGreat
set_option linter.unusedVariables false
set_option linter.unusedSimpArgs false
open Go.RowKit
theorem txt_len (l : List UInt8) : (txt l).size = l.length := by simp [txt, ByteArray.size]
def nameF : Value := .func (Fn.func 107) #[] #[]
set_option maxRecDepth 100000 in
theorem name1_ok (w : World) (o : Od) (L : SV) : Calls Tryz.prog 107 #[.agg #[.int .i64 o.c, .int .i64 o.s, .int .i64 o.k, .string (txt o.acct), .string (txt o.peer), .int .i64 o.sum, .slice L.a L.n L.c, .int .i64 o.per, .int .i64 o.hold, .string (txt o.note)]] w fun e w' => e = .returned (.bool (nameB o.acct)) ∧ Mod none_ w w' := by
  have cname := Lib.hid (fun W => name_ok W (txt o.acct))
  rw [show (txt o.acct).data.toList = o.acct from rfl] at cname
  go_enter Tryz.func107, Tryz.ntmps107
  go_wp2_with fail
  with_reducible refine (cname.out _).mono ?_
  rintro e w1 ⟨rfl, hm1⟩
  dsimp only
  have hmm := Lib.hid (((Mod.refl none_ w).alloc _).trans hm1)
  clear hm1
  go_wp2_with fail
  go_ret
  exact ⟨rfl, hmm.out⟩
def heldB (x : Int) : Bool := decide (1 ≤ x ∧ x ≤ 9999)
def periodB (x : Int) : Bool := decide (1 ≤ x ∧ x ≤ 1000)
def fits1 (o : Od) : Bool := nameB o.acct && decide (0 ≤ o.sum)
def fits2 (o : Od) : Bool := legsB o.legs && (periodB o.per && decide (o.note.length ≤ 20))
def fits3 (o : Od) : Bool := nameB o.acct && decide (0 < o.sum)
def fits4 (o : Od) : Bool := nameB o.acct && (nameB o.peer && (!decide (o.peer = o.acct) && (decide (0 < o.sum) && (heldB o.hold && periodB o.per))))
def fits5 (o : Od) : Bool := nameB o.acct && heldB o.hold
def fits6 (o : Od) : Bool := periodB o.per
set_option maxRecDepth 100000 in
set_option maxHeartbeats 4000000 in
theorem fits1_ok (w : World) (p : Nat) (hp : Blk w p 97 #[nameF]) (o : Od) (L : SV) (hO : OdM w o L) (hL : L.n ≤ 140737488355328) (hz : ∀ l ∈ o.legs, (txt l.n).size ≤ maxLen) :
    Calls Tryz.prog 110 #[.agg #[.int .i64 o.c, .int .i64 o.s, .int .i64 o.k, .string (txt o.acct), .string (txt o.peer), .int .i64 o.sum, .slice L.a L.n L.c, .int .i64 o.per, .int .i64 o.hold, .string (txt o.note)], .pointer (some ⟨p, 0, none⟩)] w fun e w' => e = .returned (.bool (fits1 o)) ∧ Mod none_ w w' := by
  have hsp : fits1 o = (nameB o.acct && decide (0 ≤ o.sum)) := rfl
  have k1 := Lib.hid (fun W => name1_ok W o L)
  have x0 := (hp.alloc (.cells #[.int .i64 o.c, .int .i64 o.s, .int .i64 o.k, .string (txt o.acct), .string (txt o.peer), .int .i64 o.sum, .slice L.a L.n L.c, .int .i64 o.per, .int .i64 o.hold, .string (txt o.note)] 30)).cell_ (i := 0) rfl
  unfold nameF at x0
  replace hp := Lib.hid hp
  have hmm := (Mod.refl none_ w).alloc (.cells #[.int .i64 o.c, .int .i64 o.s, .int .i64 o.k, .string (txt o.acct), .string (txt o.peer), .int .i64 o.sum, .slice L.a L.n L.c, .int .i64 o.per, .int .i64 o.hold, .string (txt o.note)] 30)
  have hB := Blk.new w 30 #[.int .i64 o.c, .int .i64 o.s, .int .i64 o.k, .string (txt o.acct), .string (txt o.peer), .int .i64 o.sum, .slice L.a L.n L.c, .int .i64 o.per, .int .i64 o.hold, .string (txt o.note)]
  replace hO := Lib.hid hO
  replace hsp := Lib.hid hsp
  replace hmm := Lib.hid hmm
  replace hB := Lib.hid hB
  go_enter Tryz.func110, Tryz.ntmps110
  go_wp2_with fail
  with_reducible refine (k1.out _).mono ?_
  rintro e w1 ⟨rfl, hm1⟩
  dsimp only
  replace hB := Lib.hid (hB.out.mod hm1 (fun h => h))
  replace hmm := Lib.hid (hmm.out.trans hm1)
  have qsum : w1.cell? ⟨w.heap.size, 5, none⟩ = some (.int .i64 o.sum) := hB.out.cell_ rfl
  have qpeer : w1.cell? ⟨w.heap.size, 4, none⟩ = some (.string (txt o.peer)) := hB.out.cell_ rfl
  have qacct : w1.cell? ⟨w.heap.size, 3, none⟩ = some (.string (txt o.acct)) := hB.out.cell_ rfl
  have qlegs : w1.cell? ⟨w.heap.size, 6, none⟩ = some (.slice L.a L.n L.c) := hB.out.cell_ rfl
  have qper : w1.cell? ⟨w.heap.size, 7, none⟩ = some (.int .i64 o.per) := hB.out.cell_ rfl
  have qhold : w1.cell? ⟨w.heap.size, 8, none⟩ = some (.int .i64 o.hold) := hB.out.cell_ rfl
  have qnote : w1.cell? ⟨w.heap.size, 9, none⟩ = some (.string (txt o.note)) := hB.out.cell_ rfl
  clear hm1
  go_wp2_with fail
  all_goals
    go_ret
    refine ⟨?_, hmm.out⟩
    rw [hsp.out]
    first | (simp_all [txt_len]; done) | (simp_all [txt_len]; omega)
set_option maxRecDepth 100000 in
set_option maxHeartbeats 4000000 in
theorem fits2_ok (w : World) (o : Od) (L : SV) (hO : OdM w o L) (hL : L.n ≤ 140737488355328) (hz : ∀ l ∈ o.legs, (txt l.n).size ≤ maxLen) :
    Calls Tryz.prog 112 #[.agg #[.int .i64 o.c, .int .i64 o.s, .int .i64 o.k, .string (txt o.acct), .string (txt o.peer), .int .i64 o.sum, .slice L.a L.n L.c, .int .i64 o.per, .int .i64 o.hold, .string (txt o.note)]] w fun e w' => e = .returned (.bool (fits2 o)) ∧ Mod none_ w w' := by
  have hsp : fits2 o = (legsB o.legs && (decide (1 ≤ o.per ∧ o.per ≤ 1000) && decide (o.note.length ≤ 20))) := rfl
  have kr := Lib.hid (fun W => period_ok W o.per)
  have kl := Lib.hid (fun W (h : Mod none_ w W) => legs_ok W L.a L.n L.c o.legs (hO.rd.mod0 h) hL hz)
  have hmm := (Mod.refl none_ w).alloc (.cells #[.int .i64 o.c, .int .i64 o.s, .int .i64 o.k, .string (txt o.acct), .string (txt o.peer), .int .i64 o.sum, .slice L.a L.n L.c, .int .i64 o.per, .int .i64 o.hold, .string (txt o.note)] 30)
  have hB := Blk.new w 30 #[.int .i64 o.c, .int .i64 o.s, .int .i64 o.k, .string (txt o.acct), .string (txt o.peer), .int .i64 o.sum, .slice L.a L.n L.c, .int .i64 o.per, .int .i64 o.hold, .string (txt o.note)]
  replace hO := Lib.hid hO
  replace hsp := Lib.hid hsp
  replace hmm := Lib.hid hmm
  replace hB := Lib.hid hB
  go_enter Tryz.func112, Tryz.ntmps112
  go_wp2_with fail
  with_reducible refine (kl.out _ hmm.out).mono ?_
  rintro e w1 ⟨rfl, hm1⟩
  dsimp only
  replace hB := Lib.hid (hB.out.mod hm1 (fun h => h))
  replace hmm := Lib.hid (hmm.out.trans hm1)
  have qsum : w1.cell? ⟨w.heap.size, 5, none⟩ = some (.int .i64 o.sum) := hB.out.cell_ rfl
  have qpeer : w1.cell? ⟨w.heap.size, 4, none⟩ = some (.string (txt o.peer)) := hB.out.cell_ rfl
  have qacct : w1.cell? ⟨w.heap.size, 3, none⟩ = some (.string (txt o.acct)) := hB.out.cell_ rfl
  have qlegs : w1.cell? ⟨w.heap.size, 6, none⟩ = some (.slice L.a L.n L.c) := hB.out.cell_ rfl
  have qper : w1.cell? ⟨w.heap.size, 7, none⟩ = some (.int .i64 o.per) := hB.out.cell_ rfl
  have qhold : w1.cell? ⟨w.heap.size, 8, none⟩ = some (.int .i64 o.hold) := hB.out.cell_ rfl
  have qnote : w1.cell? ⟨w.heap.size, 9, none⟩ = some (.string (txt o.note)) := hB.out.cell_ rfl
  clear hm1
  go_wp2_with fail
  · skip
    with_reducible refine (kr.out _).mono ?_
    rintro e w1 ⟨rfl, rfl⟩
    dsimp only
    go_wp2_with fail
    all_goals
      go_ret
      refine ⟨?_, hmm.out⟩
      rw [hsp.out]
      first | (simp_all [txt_len]; done) | (simp_all [txt_len]; omega)
  all_goals
    go_ret
    refine ⟨?_, hmm.out⟩
    rw [hsp.out]
    first | (simp_all [txt_len]; done) | (simp_all [txt_len]; omega)
set_option maxRecDepth 100000 in
set_option maxHeartbeats 4000000 in
theorem fits3_ok (w : World) (p : Nat) (hp : Blk w p 97 #[nameF]) (o : Od) (L : SV) (hO : OdM w o L) (hL : L.n ≤ 140737488355328) (hz : ∀ l ∈ o.legs, (txt l.n).size ≤ maxLen) :
    Calls Tryz.prog 116 #[.agg #[.int .i64 o.c, .int .i64 o.s, .int .i64 o.k, .string (txt o.acct), .string (txt o.peer), .int .i64 o.sum, .slice L.a L.n L.c, .int .i64 o.per, .int .i64 o.hold, .string (txt o.note)], .pointer (some ⟨p, 0, none⟩)] w fun e w' => e = .returned (.bool (fits3 o)) ∧ Mod none_ w w' := by
  have hsp : fits3 o = (nameB o.acct && decide (0 < o.sum)) := rfl
  have k1 := Lib.hid (fun W => name1_ok W o L)
  have x0 := (hp.alloc (.cells #[.int .i64 o.c, .int .i64 o.s, .int .i64 o.k, .string (txt o.acct), .string (txt o.peer), .int .i64 o.sum, .slice L.a L.n L.c, .int .i64 o.per, .int .i64 o.hold, .string (txt o.note)] 30)).cell_ (i := 0) rfl
  unfold nameF at x0
  replace hp := Lib.hid hp
  have hmm := (Mod.refl none_ w).alloc (.cells #[.int .i64 o.c, .int .i64 o.s, .int .i64 o.k, .string (txt o.acct), .string (txt o.peer), .int .i64 o.sum, .slice L.a L.n L.c, .int .i64 o.per, .int .i64 o.hold, .string (txt o.note)] 30)
  have hB := Blk.new w 30 #[.int .i64 o.c, .int .i64 o.s, .int .i64 o.k, .string (txt o.acct), .string (txt o.peer), .int .i64 o.sum, .slice L.a L.n L.c, .int .i64 o.per, .int .i64 o.hold, .string (txt o.note)]
  replace hO := Lib.hid hO
  replace hsp := Lib.hid hsp
  replace hmm := Lib.hid hmm
  replace hB := Lib.hid hB
  go_enter Tryz.func116, Tryz.ntmps116
  go_wp2_with fail
  with_reducible refine (k1.out _).mono ?_
  rintro e w1 ⟨rfl, hm1⟩
  dsimp only
  replace hB := Lib.hid (hB.out.mod hm1 (fun h => h))
  replace hmm := Lib.hid (hmm.out.trans hm1)
  have qsum : w1.cell? ⟨w.heap.size, 5, none⟩ = some (.int .i64 o.sum) := hB.out.cell_ rfl
  have qpeer : w1.cell? ⟨w.heap.size, 4, none⟩ = some (.string (txt o.peer)) := hB.out.cell_ rfl
  have qacct : w1.cell? ⟨w.heap.size, 3, none⟩ = some (.string (txt o.acct)) := hB.out.cell_ rfl
  have qlegs : w1.cell? ⟨w.heap.size, 6, none⟩ = some (.slice L.a L.n L.c) := hB.out.cell_ rfl
  have qper : w1.cell? ⟨w.heap.size, 7, none⟩ = some (.int .i64 o.per) := hB.out.cell_ rfl
  have qhold : w1.cell? ⟨w.heap.size, 8, none⟩ = some (.int .i64 o.hold) := hB.out.cell_ rfl
  have qnote : w1.cell? ⟨w.heap.size, 9, none⟩ = some (.string (txt o.note)) := hB.out.cell_ rfl
  clear hm1
  go_wp2_with fail
  all_goals
    go_ret
    refine ⟨?_, hmm.out⟩
    rw [hsp.out]
    first | (simp_all [txt_len]; done) | (simp_all [txt_len]; omega)
set_option maxRecDepth 100000 in
set_option maxHeartbeats 4000000 in
theorem fits4_ok (w : World) (p : Nat) (hp : Blk w p 97 #[nameF]) (o : Od) (L : SV) (hO : OdM w o L) (hL : L.n ≤ 140737488355328) (hz : ∀ l ∈ o.legs, (txt l.n).size ≤ maxLen) :
    Calls Tryz.prog 118 #[.agg #[.int .i64 o.c, .int .i64 o.s, .int .i64 o.k, .string (txt o.acct), .string (txt o.peer), .int .i64 o.sum, .slice L.a L.n L.c, .int .i64 o.per, .int .i64 o.hold, .string (txt o.note)], .pointer (some ⟨p, 0, none⟩)] w fun e w' => e = .returned (.bool (fits4 o)) ∧ Mod none_ w w' := by
  have hsp : fits4 o = (nameB o.acct && (nameB o.peer && (!decide (o.peer = o.acct) && (decide (0 < o.sum) && (decide (1 ≤ o.hold ∧ o.hold ≤ 9999) && decide (1 ≤ o.per ∧ o.per ≤ 1000)))))) := rfl
  have k1 := Lib.hid (fun W => name1_ok W o L)
  have kp := Lib.hid (fun W => name_ok W (txt o.peer))
  rw [show (txt o.peer).data.toList = o.peer from rfl] at kp
  have kh := Lib.hid (fun W => held_ok W o.hold)
  have kr := Lib.hid (fun W => period_ok W o.per)
  have x0 := (hp.alloc (.cells #[.int .i64 o.c, .int .i64 o.s, .int .i64 o.k, .string (txt o.acct), .string (txt o.peer), .int .i64 o.sum, .slice L.a L.n L.c, .int .i64 o.per, .int .i64 o.hold, .string (txt o.note)] 30)).cell_ (i := 0) rfl
  unfold nameF at x0
  replace hp := Lib.hid hp
  have hmm := (Mod.refl none_ w).alloc (.cells #[.int .i64 o.c, .int .i64 o.s, .int .i64 o.k, .string (txt o.acct), .string (txt o.peer), .int .i64 o.sum, .slice L.a L.n L.c, .int .i64 o.per, .int .i64 o.hold, .string (txt o.note)] 30)
  have hB := Blk.new w 30 #[.int .i64 o.c, .int .i64 o.s, .int .i64 o.k, .string (txt o.acct), .string (txt o.peer), .int .i64 o.sum, .slice L.a L.n L.c, .int .i64 o.per, .int .i64 o.hold, .string (txt o.note)]
  replace hO := Lib.hid hO
  replace hsp := Lib.hid hsp
  replace hmm := Lib.hid hmm
  replace hB := Lib.hid hB
  go_enter Tryz.func118, Tryz.ntmps118
  go_wp2_with fail
  with_reducible refine (k1.out _).mono ?_
  rintro e w1 ⟨rfl, hm1⟩
  dsimp only
  replace hB := Lib.hid (hB.out.mod hm1 (fun h => h))
  replace hmm := Lib.hid (hmm.out.trans hm1)
  have qsum : w1.cell? ⟨w.heap.size, 5, none⟩ = some (.int .i64 o.sum) := hB.out.cell_ rfl
  have qpeer : w1.cell? ⟨w.heap.size, 4, none⟩ = some (.string (txt o.peer)) := hB.out.cell_ rfl
  have qacct : w1.cell? ⟨w.heap.size, 3, none⟩ = some (.string (txt o.acct)) := hB.out.cell_ rfl
  have qlegs : w1.cell? ⟨w.heap.size, 6, none⟩ = some (.slice L.a L.n L.c) := hB.out.cell_ rfl
  have qper : w1.cell? ⟨w.heap.size, 7, none⟩ = some (.int .i64 o.per) := hB.out.cell_ rfl
  have qhold : w1.cell? ⟨w.heap.size, 8, none⟩ = some (.int .i64 o.hold) := hB.out.cell_ rfl
  have qnote : w1.cell? ⟨w.heap.size, 9, none⟩ = some (.string (txt o.note)) := hB.out.cell_ rfl
  clear hm1
  go_wp2_with fail
  · skip
    with_reducible refine (kp.out _).mono ?_
    rintro e w1 ⟨rfl, hm1⟩
    dsimp only
    replace hB := Lib.hid (hB.out.mod hm1 (fun h => h))
    replace hmm := Lib.hid (hmm.out.trans hm1)
    have qsum : w1.cell? ⟨w.heap.size, 5, none⟩ = some (.int .i64 o.sum) := hB.out.cell_ rfl
    have qpeer : w1.cell? ⟨w.heap.size, 4, none⟩ = some (.string (txt o.peer)) := hB.out.cell_ rfl
    have qacct : w1.cell? ⟨w.heap.size, 3, none⟩ = some (.string (txt o.acct)) := hB.out.cell_ rfl
    have qlegs : w1.cell? ⟨w.heap.size, 6, none⟩ = some (.slice L.a L.n L.c) := hB.out.cell_ rfl
    have qper : w1.cell? ⟨w.heap.size, 7, none⟩ = some (.int .i64 o.per) := hB.out.cell_ rfl
    have qhold : w1.cell? ⟨w.heap.size, 8, none⟩ = some (.int .i64 o.hold) := hB.out.cell_ rfl
    have qnote : w1.cell? ⟨w.heap.size, 9, none⟩ = some (.string (txt o.note)) := hB.out.cell_ rfl
    clear hm1
    go_wp2_with fail
    rotate_left
    · skip
      with_reducible refine (kh.out _).mono ?_
      rintro e w1 ⟨rfl, rfl⟩
      dsimp only
      go_wp2_with fail
      · skip
        with_reducible refine (kr.out _).mono ?_
        rintro e w1 ⟨rfl, rfl⟩
        dsimp only
        go_wp2_with fail
        all_goals
          go_ret
          refine ⟨?_, hmm.out⟩
          rw [hsp.out]
          first | (simp_all [txt_len]; done) | (simp_all [txt_len]; omega)
      all_goals
        go_ret
        refine ⟨?_, hmm.out⟩
        rw [hsp.out]
        first | (simp_all [txt_len]; done) | (simp_all [txt_len]; omega)
    all_goals
      go_ret
      refine ⟨?_, hmm.out⟩
      rw [hsp.out]
      first | (simp_all [txt_len]; done) | (simp_all [txt_len]; omega)
  all_goals
    go_ret
    refine ⟨?_, hmm.out⟩
    rw [hsp.out]
    first | (simp_all [txt_len]; done) | (simp_all [txt_len]; omega)
set_option maxRecDepth 100000 in
set_option maxHeartbeats 4000000 in
theorem fits5_ok (w : World) (p : Nat) (hp : Blk w p 97 #[nameF]) (o : Od) (L : SV) (hO : OdM w o L) (hL : L.n ≤ 140737488355328) (hz : ∀ l ∈ o.legs, (txt l.n).size ≤ maxLen) :
    Calls Tryz.prog 121 #[.agg #[.int .i64 o.c, .int .i64 o.s, .int .i64 o.k, .string (txt o.acct), .string (txt o.peer), .int .i64 o.sum, .slice L.a L.n L.c, .int .i64 o.per, .int .i64 o.hold, .string (txt o.note)], .pointer (some ⟨p, 0, none⟩)] w fun e w' => e = .returned (.bool (fits5 o)) ∧ Mod none_ w w' := by
  have hsp : fits5 o = (nameB o.acct && decide (1 ≤ o.hold ∧ o.hold ≤ 9999)) := rfl
  have k1 := Lib.hid (fun W => name1_ok W o L)
  have kh := Lib.hid (fun W => held_ok W o.hold)
  have x0 := (hp.alloc (.cells #[.int .i64 o.c, .int .i64 o.s, .int .i64 o.k, .string (txt o.acct), .string (txt o.peer), .int .i64 o.sum, .slice L.a L.n L.c, .int .i64 o.per, .int .i64 o.hold, .string (txt o.note)] 30)).cell_ (i := 0) rfl
  unfold nameF at x0
  replace hp := Lib.hid hp
  have hmm := (Mod.refl none_ w).alloc (.cells #[.int .i64 o.c, .int .i64 o.s, .int .i64 o.k, .string (txt o.acct), .string (txt o.peer), .int .i64 o.sum, .slice L.a L.n L.c, .int .i64 o.per, .int .i64 o.hold, .string (txt o.note)] 30)
  have hB := Blk.new w 30 #[.int .i64 o.c, .int .i64 o.s, .int .i64 o.k, .string (txt o.acct), .string (txt o.peer), .int .i64 o.sum, .slice L.a L.n L.c, .int .i64 o.per, .int .i64 o.hold, .string (txt o.note)]
  replace hO := Lib.hid hO
  replace hsp := Lib.hid hsp
  replace hmm := Lib.hid hmm
  replace hB := Lib.hid hB
  go_enter Tryz.func121, Tryz.ntmps121
  go_wp2_with fail
  with_reducible refine (k1.out _).mono ?_
  rintro e w1 ⟨rfl, hm1⟩
  dsimp only
  replace hB := Lib.hid (hB.out.mod hm1 (fun h => h))
  replace hmm := Lib.hid (hmm.out.trans hm1)
  have qsum : w1.cell? ⟨w.heap.size, 5, none⟩ = some (.int .i64 o.sum) := hB.out.cell_ rfl
  have qpeer : w1.cell? ⟨w.heap.size, 4, none⟩ = some (.string (txt o.peer)) := hB.out.cell_ rfl
  have qacct : w1.cell? ⟨w.heap.size, 3, none⟩ = some (.string (txt o.acct)) := hB.out.cell_ rfl
  have qlegs : w1.cell? ⟨w.heap.size, 6, none⟩ = some (.slice L.a L.n L.c) := hB.out.cell_ rfl
  have qper : w1.cell? ⟨w.heap.size, 7, none⟩ = some (.int .i64 o.per) := hB.out.cell_ rfl
  have qhold : w1.cell? ⟨w.heap.size, 8, none⟩ = some (.int .i64 o.hold) := hB.out.cell_ rfl
  have qnote : w1.cell? ⟨w.heap.size, 9, none⟩ = some (.string (txt o.note)) := hB.out.cell_ rfl
  clear hm1
  go_wp2_with fail
  · skip
    with_reducible refine (kh.out _).mono ?_
    rintro e w1 ⟨rfl, rfl⟩
    dsimp only
    go_wp2_with fail
    all_goals
      go_ret
      refine ⟨?_, hmm.out⟩
      rw [hsp.out]
      first | (simp_all [txt_len]; done) | (simp_all [txt_len]; omega)
  all_goals
    go_ret
    refine ⟨?_, hmm.out⟩
    rw [hsp.out]
    first | (simp_all [txt_len]; done) | (simp_all [txt_len]; omega)
set_option maxRecDepth 100000 in
set_option maxHeartbeats 4000000 in
theorem fits6_ok (w : World) (o : Od) (L : SV) (hO : OdM w o L) (hL : L.n ≤ 140737488355328) (hz : ∀ l ∈ o.legs, (txt l.n).size ≤ maxLen) :
    Calls Tryz.prog 123 #[.agg #[.int .i64 o.c, .int .i64 o.s, .int .i64 o.k, .string (txt o.acct), .string (txt o.peer), .int .i64 o.sum, .slice L.a L.n L.c, .int .i64 o.per, .int .i64 o.hold, .string (txt o.note)]] w fun e w' => e = .returned (.bool (fits6 o)) ∧ Mod none_ w w' := by
  have hsp : fits6 o = (decide (1 ≤ o.per ∧ o.per ≤ 1000)) := rfl
  have kr := Lib.hid (fun W => period_ok W o.per)
  have hmm := (Mod.refl none_ w).alloc (.cells #[.int .i64 o.c, .int .i64 o.s, .int .i64 o.k, .string (txt o.acct), .string (txt o.peer), .int .i64 o.sum, .slice L.a L.n L.c, .int .i64 o.per, .int .i64 o.hold, .string (txt o.note)] 30)
  have hB := Blk.new w 30 #[.int .i64 o.c, .int .i64 o.s, .int .i64 o.k, .string (txt o.acct), .string (txt o.peer), .int .i64 o.sum, .slice L.a L.n L.c, .int .i64 o.per, .int .i64 o.hold, .string (txt o.note)]
  replace hO := Lib.hid hO
  replace hsp := Lib.hid hsp
  replace hmm := Lib.hid hmm
  replace hB := Lib.hid hB
  go_enter Tryz.func123, Tryz.ntmps123
  go_wp2_with fail
  with_reducible refine (kr.out _).mono ?_
  rintro e w1 ⟨rfl, rfl⟩
  dsimp only
  go_wp2_with fail
  all_goals
    go_ret
    refine ⟨?_, hmm.out⟩
    rw [hsp.out]
    first | (simp_all [txt_len]; done) | (simp_all [txt_len]; omega)
end Go.Proofs.YtimlfdihodoolaaGreat
/-
  order's shapes: the bare orders.
-/
namespace Go.Proofs.YtimlfdihodoolaaGreat
set_option linter.unusedVariables false
set_option linter.unusedSimpArgs false
open Go.RowKit
theorem order_size : (Tryz.prog.info? 30).map (·.size) = some 10 := by kernel_rfl
/-- the end of a function whose result is an order in a block -/
theorem ret_order {fn : Func} {p : Tmp} (h : fn.results = #[.cell p 30]) {a : Act} {w : World} {R : Ending → World → Prop} (g : Nat) (cs : Array Value) (hp : a.tmps.getD p undef = .pointer (some ⟨g, 0, none⟩))
    (hg : Blk w g 30 cs) (hs : cs.size = 10) (hd : a.defers = []) (hR : R (.returned (.agg cs)) w) : bodyPost Tryz.prog fn R .ret a w :=
  bodyPost_ret (results_cell_row h a.tmps w g _ cs _ _ hp hg Tryz.underlying30 rfl (by rw [hs]; exact order_size)) hd hR
def bare1 (o : Od) : Od := ⟨o.c, o.s, o.k, o.acct, [], o.sum, [], 0, 0, []⟩
set_option maxRecDepth 100000 in
theorem bare1_ok (w : World) (o : Od) (L : SV) :
    Calls Tryz.prog 109 #[.agg #[.int .i64 o.c, .int .i64 o.s, .int .i64 o.k, .string (txt o.acct), .string (txt o.peer), .int .i64 o.sum, .slice L.a L.n L.c, .int .i64 o.per, .int .i64 o.hold, .string (txt o.note)]] w fun e w' => e = .returned (.agg #[.int .i64 0, .int .i64 0, .int .i64 0, .string (txt o.acct), .string ⟨#[]⟩, .int .i64 o.sum, .slice none 0 0, .int .i64 0, .int .i64 0, .string ⟨#[]⟩]) ∧ Mod none_ w w' := by
  go_enter Tryz.func109, Tryz.ntmps109
  go_wp2_with fail
  exact ret_order rfl (w.heap.size + 1) _ rfl (heap_alloc2_new _ _ _) rfl rfl ⟨rfl, ((Mod.refl none_ w).alloc _).alloc _⟩
def bare2 (o : Od) : Od := ⟨o.c, o.s, o.k, [], [], 0, o.legs, o.per, 0, o.note⟩
set_option maxRecDepth 100000 in
theorem bare2_ok (w : World) (o : Od) (L : SV) :
    Calls Tryz.prog 111 #[.agg #[.int .i64 o.c, .int .i64 o.s, .int .i64 o.k, .string (txt o.acct), .string (txt o.peer), .int .i64 o.sum, .slice L.a L.n L.c, .int .i64 o.per, .int .i64 o.hold, .string (txt o.note)]] w fun e w' => e = .returned (.agg #[.int .i64 0, .int .i64 0, .int .i64 0, .string ⟨#[]⟩, .string ⟨#[]⟩, .int .i64 0, .slice L.a L.n L.c, .int .i64 o.per, .int .i64 0, .string (txt o.note)]) ∧ Mod none_ w w' := by
  go_enter Tryz.func111, Tryz.ntmps111
  go_wp2_with fail
  exact ret_order rfl (w.heap.size + 1) _ rfl (heap_alloc2_new _ _ _) rfl rfl ⟨rfl, ((Mod.refl none_ w).alloc _).alloc _⟩
def bare3 (o : Od) : Od := ⟨o.c, o.s, o.k, o.acct, [], o.sum, [], 0, 0, []⟩
set_option maxRecDepth 100000 in
theorem bare3_ok (w : World) (o : Od) (L : SV) :
    Calls Tryz.prog 115 #[.agg #[.int .i64 o.c, .int .i64 o.s, .int .i64 o.k, .string (txt o.acct), .string (txt o.peer), .int .i64 o.sum, .slice L.a L.n L.c, .int .i64 o.per, .int .i64 o.hold, .string (txt o.note)]] w fun e w' => e = .returned (.agg #[.int .i64 0, .int .i64 0, .int .i64 0, .string (txt o.acct), .string ⟨#[]⟩, .int .i64 o.sum, .slice none 0 0, .int .i64 0, .int .i64 0, .string ⟨#[]⟩]) ∧ Mod none_ w w' := by
  go_enter Tryz.func115, Tryz.ntmps115
  go_wp2_with fail
  exact ret_order rfl (w.heap.size + 1) _ rfl (heap_alloc2_new _ _ _) rfl rfl ⟨rfl, ((Mod.refl none_ w).alloc _).alloc _⟩
def bare4 (o : Od) : Od := ⟨o.c, o.s, o.k, o.acct, o.peer, o.sum, [], o.per, o.hold, []⟩
set_option maxRecDepth 100000 in
theorem bare4_ok (w : World) (o : Od) (L : SV) :
    Calls Tryz.prog 117 #[.agg #[.int .i64 o.c, .int .i64 o.s, .int .i64 o.k, .string (txt o.acct), .string (txt o.peer), .int .i64 o.sum, .slice L.a L.n L.c, .int .i64 o.per, .int .i64 o.hold, .string (txt o.note)]] w fun e w' => e = .returned (.agg #[.int .i64 0, .int .i64 0, .int .i64 0, .string (txt o.acct), .string (txt o.peer), .int .i64 o.sum, .slice none 0 0, .int .i64 o.per, .int .i64 o.hold, .string ⟨#[]⟩]) ∧ Mod none_ w w' := by
  go_enter Tryz.func117, Tryz.ntmps117
  go_wp2_with fail
  exact ret_order rfl (w.heap.size + 1) _ rfl (heap_alloc2_new _ _ _) rfl rfl ⟨rfl, ((Mod.refl none_ w).alloc _).alloc _⟩
def bare5 (o : Od) : Od := ⟨o.c, o.s, o.k, o.acct, [], 0, [], 0, o.hold, []⟩
set_option maxRecDepth 100000 in
theorem bare5_ok (w : World) (o : Od) (L : SV) :
    Calls Tryz.prog 120 #[.agg #[.int .i64 o.c, .int .i64 o.s, .int .i64 o.k, .string (txt o.acct), .string (txt o.peer), .int .i64 o.sum, .slice L.a L.n L.c, .int .i64 o.per, .int .i64 o.hold, .string (txt o.note)]] w fun e w' => e = .returned (.agg #[.int .i64 0, .int .i64 0, .int .i64 0, .string (txt o.acct), .string ⟨#[]⟩, .int .i64 0, .slice none 0 0, .int .i64 0, .int .i64 o.hold, .string ⟨#[]⟩]) ∧ Mod none_ w w' := by
  go_enter Tryz.func120, Tryz.ntmps120
  go_wp2_with fail
  exact ret_order rfl (w.heap.size + 1) _ rfl (heap_alloc2_new _ _ _) rfl rfl ⟨rfl, ((Mod.refl none_ w).alloc _).alloc _⟩
def bare6 (o : Od) : Od := ⟨o.c, o.s, o.k, [], [], 0, [], o.per, 0, []⟩
set_option maxRecDepth 100000 in
theorem bare6_ok (w : World) (o : Od) (L : SV) :
    Calls Tryz.prog 122 #[.agg #[.int .i64 o.c, .int .i64 o.s, .int .i64 o.k, .string (txt o.acct), .string (txt o.peer), .int .i64 o.sum, .slice L.a L.n L.c, .int .i64 o.per, .int .i64 o.hold, .string (txt o.note)]] w fun e w' => e = .returned (.agg #[.int .i64 0, .int .i64 0, .int .i64 0, .string ⟨#[]⟩, .string ⟨#[]⟩, .int .i64 0, .slice none 0 0, .int .i64 o.per, .int .i64 0, .string ⟨#[]⟩]) ∧ Mod none_ w w' := by
  go_enter Tryz.func122, Tryz.ntmps122
  go_wp2_with fail
  exact ret_order rfl (w.heap.size + 1) _ rfl (heap_alloc2_new _ _ _) rfl rfl ⟨rfl, ((Mod.refl none_ w).alloc _).alloc _⟩
def bare7 (o : Od) : Od := ⟨o.c, o.s, o.k, o.acct, [], 0, [], 0, 0, []⟩
set_option maxRecDepth 100000 in
theorem bare7_ok (w : World) (o : Od) (L : SV) :
    Calls Tryz.prog 124 #[.agg #[.int .i64 o.c, .int .i64 o.s, .int .i64 o.k, .string (txt o.acct), .string (txt o.peer), .int .i64 o.sum, .slice L.a L.n L.c, .int .i64 o.per, .int .i64 o.hold, .string (txt o.note)]] w fun e w' => e = .returned (.agg #[.int .i64 0, .int .i64 0, .int .i64 0, .string (txt o.acct), .string ⟨#[]⟩, .int .i64 0, .slice none 0 0, .int .i64 0, .int .i64 0, .string ⟨#[]⟩]) ∧ Mod none_ w w' := by
  go_enter Tryz.func124, Tryz.ntmps124
  go_wp2_with fail
  exact ret_order rfl (w.heap.size + 1) _ rfl (heap_alloc2_new _ _ _) rfl rfl ⟨rfl, ((Mod.refl none_ w).alloc _).alloc _⟩
end Go.Proofs.YtimlfdihodoolaaGreat
