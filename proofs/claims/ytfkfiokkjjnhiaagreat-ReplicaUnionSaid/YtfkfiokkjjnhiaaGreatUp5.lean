import Derived.Test.YtfkfiokkjjnhiaaGreatUp2
import Derived.Lib.DecodeN
import Derived.Lib.QuoteLoop
import Derived.Lib.OthersKept
import Derived.Test.YtfkfiokkjjnhiaaGreatUp4
import Derived.Laws.Runes
import Derived.BigQuiet
import Derived.LoopTactic
import Derived.Test.YtfkfiokkjjnhiaaGreatUp1
set_option linter.unusedVariables false
set_option linter.unusedSimpArgs false
set_option maxHeartbeats 16000000
namespace Go.Proofs.YtfkfiokkjjnhiaaGreat
open Go.RowKit
def signs : ByteArray := ⟨#[97, 98, 99, 100, 101, 102, 103, 104, 105, 106, 107, 108, 109, 110, 111, 112, 113, 114, 115, 116, 117, 118, 119, 120, 121, 122, 48, 49, 50, 51, 52, 53, 54, 55, 56, 57]⟩
theorem ixb_none : ∀ (l : List UInt8) (c : UInt8), (∀ b ∈ l, b ≠ c) → Lib.indexByte l c = -1
 | [], _, _ => rfl
 | b :: l, c, h => by
  have h1 : (b == c) = false := by have := h b (by simp); simpa using this
  have h2 := ixb_none l c (fun x hx => h x (by simp [hx]))
  simp [Lib.indexByte, h1, h2]
theorem sign_small (b : UInt8) (h : b ∈ signs.data.toList) : b.toNat < 128 := by
 have : ∀ b ∈ signs.data.toList, b.toNat < 128 := by decide
 exact this b h
set_option maxRecDepth 1000000
theorem ixr_wide (w : World) (r : Nat) (h1 : 128 ≤ r) (hv : r < 55296 ∨ 57343 < r ∧ r ≤ 1114111) (hr : ¬ r = 65533) : Calls Tryz.prog 173 #[.string signs, .int .i32 (r : Int)] w fun e w' => e = .returned (.int .i64 (-1)) ∧ Mod none_ w w' := by
 have hsz : signs.size = 36 := rfl
 have hsg := sign_small
 generalize signs = sg at *
 have hok : validRune (r : Int) = true := by simp only [validRune, decide_eq_true_eq]; omega
 obtain ⟨g1, g2, g3⟩ := encode_facts (r : Int) (by rw [validRune_eq]; exact hok) (by omega)
 have hvr := fun W => Tryz.utf8_ValidRune (r : Int) W
 rw [show Lib.validRune (r : Int) = true from hok] at hvr
 obtain ⟨rs, hrs⟩ : ∃ rs, Utf8.encode (r : Int) = rs := ⟨_, rfl⟩
 rw [hrs] at g1 g2 g3
 obtain ⟨m, hm⟩ : ∃ m, rs.size = m + 1 := ⟨rs.size - 1, by omega⟩
 have hm1 : 1 ≤ m ∧ m ≤ 3 := by omega
 have hml : m < rs.size := by omega
 have hmg : m < sg.size := by omega
 have hwm : wrap64 (m : Int) = (m : Int) := IntWalk.wrap64_in _ ⟨by omega, by omega⟩
 have hlast : 128 ≤ (rs[m]'hml).toNat := by
  have := g3 (by omega)
  have e : rs.size - 1 = m := by omega
  simpa only [e] using this
 have hst : ∀ b ∈ (sg.extract (m+1) sg.size).data.toList, b ≠ rs[m]'hml := fun b hb e => by
  have := hsg b (mem_extract hb)
  rw [e] at this; omega
 have hfst : (sg[m]'hmg).toNat < 128 := hsg _ (Array.getElem_mem_toList (xs := sg.data) hmg)
 have i1 : ∀ W, (Instr.index 9 (.string sg) (.int .i64 (m : Int))).run Tryz.prog W = .ok (.int .u8 ((sg[m]'hmg).toNat : Int)) W := fun W => by
  rw [run_index_string W _ sg .i64 m Tryz.underlying9, dif_pos (by omega)]
  rfl
 have i2 : ∀ W, (Instr.index 9 (.string rs) (.int .i64 (m : Int))).run Tryz.prog W = .ok (.int .u8 ((rs[m]'hml).toNat : Int)) W := fun W => by
  rw [run_index_string W _ rs .i64 m Tryz.underlying9, dif_pos (by omega)]
  rfl
 have i3 : ∀ W, (Instr.slice 9 (.string sg) (some (.int .i64 ((m : Int) + 1))) none none).run Tryz.prog W = .ok (.string (sg.extract (m+1) sg.size)) W := fun W => by
  rw [run_slice_string_l W _ sg Tryz.underlying9 .i64 ((m:Int)+1) (by omega) (by omega)]
  rfl
 have i6 : ∀ W, (Instr.sliceAt 9 (.string sg) (some (.int .i64 ((m : Int) + 1))) none none).run Tryz.prog W = .ok (.string (sg.extract (m+1) sg.size)) W := fun W => by
  rw [run_sliceAt_string W _ _ _ _ _ Tryz.underlying9, i3 W]
 have i4 : ∀ W, Calls Tryz.prog 214 #[.string (sg.extract (m+1) sg.size), .int .u8 ((rs[m]'hml).toNat : Int)] W fun e w' => e = .returned (.int .i64 (-1)) ∧ w' = W := fun W => by
  have := Tryz.strings_IndexByte (sg.extract (m+1) sg.size) ((rs[m]'hml).toNat : Int) W
  rw [show (((rs[m]'hml).toNat : Int).toNat).toUInt8 = rs[m]'hml by simp, ixb_none _ _ hst] at this
  exact this
 have i5 : (((sg[m]'hmg).toNat : Int) == ((rs[m]'hml).toNat : Int)) = false := by simp; omega
 generalize ((rs[m]'hml).toNat : Int) = c at *
 generalize ((sg[m]'hmg).toNat : Int) = d at *
 generalize sg.extract (m+1) sg.size = st at *
 replace hok := zH hok
 replace hvr := zH hvr
 replace hv := zH hv
 replace g1 := zH g1
 replace g2 := zH g2
 replace g3 := zH g3
 replace hsg := zH hsg
 replace hrs := zH hrs
 replace hm := zH hm
 replace hm1 := zH hm1
 replace hsz := zH hsz
 replace hml := zH hml
 replace hmg := zH hmg
 replace hwm := zH hwm
 replace hlast := zH hlast
 replace hst := zH hst
 replace hfst := zH hfst
 replace i1 := zH i1
 replace i2 := zH i2
 replace i3 := zH i3
 replace i4 := zH i4
 replace i5 := zH i5
 replace i6 := zH i6
 go_enter Tryz.func173, Tryz.ntmps173
 go_wp2_with (go_step3)
 refine (hvr.out w).mono ?_
 rintro e w1 ⟨rfl, rfl⟩
 dsimp only
 have hm := hm.out
 have hm1 := hm1.out
 have hsz := hsz.out
 have hwm := hwm.out
 go_wp2_with (go_step3)
 rename_i K0 a0
 clear a0
 rw [hrs.out]
 rw [hrs.out] at *
 go_loopw [9, 10] (fun x y wr => x = .int .i64 (m : Int) ∧ y = .int .i64 0 ∧ w1 = wr) (fun _ _ _ => 0)
 case atStart =>
  refine ⟨?_, rfl, rfl⟩
  rw [hm, show (((m + 1 : Nat) : Int) - 1) = (m : Int) by omega, hwm]
 case round =>
  obtain ⟨rfl, rfl, rfl⟩ := hrel
  replace i1 := i1.out
  replace i2 := i2.out
  replace i3 := i3.out
  replace i6 := i6.out
  replace i5 := i5.out
  have i7 : IntKind.i64.wrap ((m : Int) + 1) = (m : Int) + 1 := wrap_small _ (by omega) (by omega)
  have i8 : ∀ W, (Instr.sliceAt 9 (.string sg) (some (.int .i64 (IntKind.i64.wrap ((m : Int) + 1)))) none none).run Tryz.prog W = .ok (.string st) W := fun W => by rw [i7]; exact i6 W
  have i9 : ∀ W, (Instr.slice 9 (.string sg) (some (.int .i64 (IntKind.i64.wrap ((m : Int) + 1)))) none none).run Tryz.prog W = .ok (.string st) W := fun W => by rw [i7]; exact i3 W
  clear i7
  go_wp2_with (first | go_step3 | (go_quiet ((go_at_call 214; exact (i4.out _).mono (fun e w' h => ⟨h.1, _, h.2⟩)))))
  rw [Exit.noGoto_ret]
  go_ret
  exact ⟨rfl, (Mod.refl none_ w1).drewN _⟩
theorem ixr_err (w : World) : Calls Tryz.prog 173 #[.string signs, .int .i32 65533] w fun e w' => e = .returned (.int .i64 (-1)) ∧ Mod none_ w w' := by
 have hsz : signs.size = 36 := rfl
 have hsg := sign_small
 generalize signs = sg at *
 replace hsz := zH hsz
 replace hsg := zH hsg
 go_enter Tryz.func173, Tryz.ntmps173
 go_wp2_with fail
 go_loopw [] (fun wr => ∃ pos : Nat, wr.heap[w.heap.size]? = some (.stringIter sg pos) ∧ Mod none_ w wr ∧ pos ≤ sg.size) (fun wr => sg.size - wr.iterPos w.heap.size)
 case atStart => exact ⟨0, World.iter_heap w sg 0, (Mod.refl none_ w).alloc _, by omega⟩
 case round =>
  obtain ⟨pos, hit, hm, hp⟩ := hrel
  have hs2 : w.heap.size < wr.heap.size := (Array.getElem?_eq_some_iff.1 hit).1
  by_cases hlt : pos < sg.size
  ·have hnx : ∀ ty, (Instr.next (.pointer (some ⟨w.heap.size, 0, none⟩)) true ty).run Tryz.prog wr = _ := fun ty => Lib.run_next_any_at wr w.heap.size sg pos ty hit hlt
   have hm2 : Mod none_ w (wr.iterAt w.heap.size sg (pos + (Utf8.decode sg pos).2)) := Mod.of_below (Lib.below_iterAt hm.below0 (k := w.heap.size) (by omega) sg _)
   have hit2 := Lib.iterAt_heap wr w.heap.size sg pos (pos + (Utf8.decode sg pos).2) hit
   have hb : (sg[pos]'hlt).toNat < 128 := hsg.out _ (Array.getElem_mem_toList (xs := sg.data) hlt)
   rw [decode_ascii sg pos hlt hb] at hnx hm2 hit2
   have hne : (((sg[pos]'hlt).toNat : Int) == 65533) = false := by simp; omega
   generalize (sg[pos]'hlt).toNat = v at *
   replace hm := zH hm
   replace hit := zH hit
   replace hm2 := zH hm2
   replace hit2 := zH hit2
   replace hb := zH hb
   go_wp2_with fail
   go_roundw
   case rel => exact ⟨pos + 1, hit2.out, hm2.out, by omega⟩
   case measure => simp only [World.iterPos, hit2.out, hit.out]; omega
  ·have hnx : ∀ ty, (Instr.next (.pointer (some ⟨w.heap.size, 0, none⟩)) true ty).run Tryz.prog wr = _ := fun ty => Lib.run_next_end_at wr w.heap.size sg pos ty hit hlt
   replace hm := zH hm
   replace hit := zH hit
   go_wp2_with fail
   go_ret
   exact ⟨rfl, hm.out⟩
theorem ixr_any (w : World) (r : Nat) (h1 : 128 ≤ r) (hv : r < 55296 ∨ 57343 < r ∧ r ≤ 1114111) : Calls Tryz.prog 173 #[.string signs, .int .i32 (r : Int)] w fun e w' => e = .returned (.int .i64 (-1)) ∧ Mod none_ w w' := by
 by_cases h : r = 65533
 ·subst h; exact ixr_err w
 ·exact ixr_wide w r h1 hv h
def isSign (b : UInt8) : Bool := (97 ≤ b && b ≤ 122) || (48 ≤ b && b ≤ 57)
def nameB (l : List UInt8) : Bool := l.all isSign && decide (0 < l.length) && decide (l.length ≤ 8)
theorem sign_ix_nat : ∀ n, n < 256 → (decide (Lib.indexByte signs.data.toList n.toUInt8 < 0)) = !isSign n.toUInt8 := by decide +kernel
theorem sign_ix (b : UInt8) : (decide (Lib.indexByte signs.data.toList b < 0)) = !isSign b := by
 have := sign_ix_nat b.toNat b.toNat_lt
 rwa [show b.toNat.toUInt8 = b by simp] at this
theorem wide_not_sign (b : UInt8) (h : 128 ≤ b.toNat) : isSign b = false := by
 unfold isSign
 have h1 : ¬ b ≤ 122 := by rw [UInt8.le_iff_toNat_le]; show ¬ b.toNat ≤ 122; omega
 have h2 : ¬ b ≤ 57 := by rw [UInt8.le_iff_toNat_le]; show ¬ b.toNat ≤ 57; omega
 simp [h1, h2]
theorem name_no (s : ByteArray) (i : Nat) (h : i < s.size) (hs : isSign s[i] = false) : nameB s.data.toList = false := by
 unfold nameB
 have : s.data.toList.all isSign = false := by
  rw [List.all_eq_false]
  exact ⟨s[i], Array.getElem_mem_toList (xs := s.data) h, by rw [hs]; simp⟩
 rw [this]; rfl
theorem name_all (s : ByteArray) (h : ∀ i (h : i < s.size), isSign s[i] = true) : nameB s.data.toList = (decide (0 < s.size) && decide (s.size ≤ 8)) := by
 unfold nameB
 have e : s.data.toList.length = s.size := rfl
 have : s.data.toList.all isSign = true := by
  rw [List.all_eq_true]
  intro b hb
  obtain ⟨i, hi, rfl⟩ := List.getElem_of_mem hb
  exact h i hi
 rw [this, e, Bool.true_and]
theorem toList_empty (s : ByteArray) : s.toList.isEmpty = decide (s.size = 0) := by
 show (txt s.data.toList).toList.isEmpty = _
 rw [txt_toList]
 have e : s.data.toList.length = s.size := rfl
 rw [← e]
 cases s.data.toList <;> simp
theorem name_ok (w : World) (s : ByteArray) : Calls Tryz.prog 109 #[.string s] w fun e w' => e = .returned (.bool (nameB s.data.toList)) ∧ Mod none_ w w' := by
 have sg : (⟨#[97, 98, 99, 100, 101, 102, 103, 104, 105, 106, 107, 108, 109, 110, 111, 112, 113, 114, 115, 116, 117, 118, 119, 120, 121, 122, 48, 49, 50, 51, 52, 53, 54, 55, 56, 57]⟩ : ByteArray) = signs := rfl
 have ca := zH (fun (W : World) (r : Nat) (h : r < 128) => Tryz.strings_IndexRune_ascii signs (r : Int) W (by omega) (by omega))
 have cw := zH (fun (W : World) (r : Nat) h1 h2 => ixr_any W r h1 h2)
 go_enter Tryz.func109, Tryz.ntmps109
 go_wp2_with fail
 go_loopw [] (fun wr => ∃ pos : Nat, wr.heap[w.heap.size]? = some (.stringIter s pos) ∧ Mod none_ w wr ∧ pos ≤ s.size ∧ ∀ i (h : i < s.size), i < pos → isSign s[i] = true) (fun wr => s.size - wr.iterPos w.heap.size)
 case atStart =>
  refine ⟨0, World.iter_heap w s 0, ?_, by omega, fun i _ h => by omega⟩
  exact (Mod.refl none_ w).alloc _
 case round =>
  obtain ⟨pos, hit, hm, hp, hall⟩ := hrel
  have hsz : w.heap.size < wr.heap.size := (Array.getElem?_eq_some_iff.1 hit).1
  by_cases hlt : pos < s.size
  ·have hnx : ∀ ty, (Instr.next (.pointer (some ⟨w.heap.size, 0, none⟩)) true ty).run Tryz.prog wr = _ := fun ty => Lib.run_next_any_at wr w.heap.size s pos ty hit hlt
   have hm2 : Mod none_ w (wr.iterAt w.heap.size s (pos + (Utf8.decode s pos).2)) := Mod.of_below (Lib.below_iterAt hm.below0 (k := w.heap.size) (by omega) s _)
   have hit2 := Lib.iterAt_heap wr w.heap.size s pos (pos + (Utf8.decode s pos).2) hit
   by_cases hb : (s[pos]'hlt).toNat < 128
   ·rw [decode_ascii s pos hlt hb] at hnx hm2 hit2
    have hix := sign_ix (s[pos]'hlt)
    have hc := zH (fun W => ca.out W (s[pos]'hlt).toNat hb)
    have eb : (((s[pos]'hlt).toNat : Int).toNat).toUInt8 = s[pos]'hlt := by simp
    rw [eb] at hc
    cases hs : isSign (s[pos]'hlt) with
    | true =>
     rw [hs] at hix
     have hix2 : ¬ (Lib.indexByte signs.data.toList (s[pos]'hlt) < 0) := by simpa using hix
     have hnext : ∀ i (h : i < s.size), i < pos + 1 → isSign s[i] = true := by
      intro i h h1
      by_cases e : i = pos
      ·subst e; exact hs
      ·exact hall i h (by omega)
     generalize Lib.indexByte signs.data.toList (s[pos]'hlt) = v at *
     unfold signs at hc
     replace hall := zH hall
     replace hm := zH hm
     replace hit := zH hit
     replace hm2 := zH hm2
     replace hit2 := zH hit2
     replace hix := zH hix
     replace hnext := zH hnext
     replace hs := zH hs
     replace hb := zH hb
     replace eb := zH eb
     go_wp2_with fail
     refine (hc.out _).mono ?_
     rintro e w1 ⟨rfl, rfl⟩
     dsimp only
     go_wp2_with fail
     go_roundw
     case rel => exact ⟨pos + 1, hit2.out, hm2.out, by omega, hnext.out⟩
     case measure => simp only [World.iterPos, hit2.out, hit.out]; omega
    | false =>
     rw [hs] at hix
     have hix2 : Lib.indexByte signs.data.toList (s[pos]'hlt) < 0 := by simpa using hix
     have hno := name_no s pos hlt hs
     generalize Lib.indexByte signs.data.toList (s[pos]'hlt) = v at *
     unfold signs at hc
     replace hall := zH hall
     replace hm := zH hm
     replace hit := zH hit
     replace hm2 := zH hm2
     replace hit2 := zH hit2
     replace hix := zH hix
     replace hs := zH hs
     replace hb := zH hb
     replace eb := zH eb
     go_wp2_with fail
     refine (hc.out _).mono ?_
     rintro e w1 ⟨rfl, rfl⟩
     dsimp only
     go_wp2_with fail
     go_ret
     refine ⟨?_, hm2.out⟩
     rw [hno]; rfl
   ·have hd := decode_high s pos hlt (by omega)
    have hdv : (Utf8.decode s pos).1 < 55296 ∨ (57343 < (Utf8.decode s pos).1 ∧ (Utf8.decode s pos).1 ≤ 1114111) := by
     rw [Lib.decode_at]
     exact Lib.decodeN_valid _ _ _ _ _ (UInt8.toNat_lt _)
    have hc := zH (fun W => cw.out W _ hd.1 hdv)
    have hno := name_no s pos hlt (wide_not_sign _ (by omega))
    generalize (Utf8.decode s pos).1 = r at *
    generalize (Utf8.decode s pos).2 = k at *
    unfold signs at hc
    replace hall := zH hall
    replace hm := zH hm
    replace hit := zH hit
    replace hm2 := zH hm2
    replace hit2 := zH hit2
    replace hd := zH hd
    replace hdv := zH hdv
    replace hb := zH hb
    go_wp2_with fail
    refine (hc.out _).mono ?_
    rintro e w1 ⟨rfl, hm3⟩
    dsimp only
    replace hm3 := zH hm3
    go_wp2_with fail
    go_ret
    refine ⟨?_, hm2.out.then hm3.out (fun _ _ h => h)⟩
    rw [hno]; rfl
  ·have hnx : ∀ ty, (Instr.next (.pointer (some ⟨w.heap.size, 0, none⟩)) true ty).run Tryz.prog wr = _ := fun ty => Lib.run_next_end_at wr w.heap.size s pos ty hit hlt
   have hres := name_all s (fun i h => hall i h (by omega))
   have he := toList_empty s
   by_cases hz : s.size = 0
   ·rw [decide_eq_true hz] at he
    replace hall := zH hall
    replace hm := zH hm
    replace hit := zH hit
    go_wp2_with fail
    go_ret
    refine ⟨?_, hm.out⟩
    rw [hres, hz]; rfl
   ·rw [decide_eq_false hz] at he
    replace hall := zH hall
    replace hm := zH hm
    replace hit := zH hit
    go_wp2_with fail
    go_ret
    refine ⟨?_, hm.out⟩
    rw [hres, decide_eq_true (show 0 < s.size by omega), Bool.true_and]
    show Ending.returned (.bool (decide ((s.size : Int) ≤ 8))) = _
    congr 2
    exact decide_eq_decide.2 (by omega)
theorem find_insL_no {x : NameV} {p : NameV → Bool} (h : p x = false) : ∀ L : List NameV, (insL x L).find? p = L.find? p
 | [] => by simp [insL, h]
 | y :: L => by
  unfold insL
  split
  ·rw [List.find?_cons, h]
  ·rw [List.find?_cons, List.find?_cons, find_insL_no h L]
theorem find_insL_yes {x : NameV} {p : NameV → Bool} (h : p x = true) : ∀ L : List NameV, (∀ y ∈ L, p y = false) → (insL x L).find? p = some x
 | [], _ => by simp [insL, h]
 | y :: L, hL => by
  unfold insL
  split
  ·rw [List.find?_cons, h]
  ·rw [List.find?_cons, hL y (by simp), find_insL_yes h L fun z hz => hL z (by simp [hz])]
theorem findL_put (L : List NameV) (s : List UInt8) (v : Value) (s' : List UInt8) : findL (putL s v L) s' = if s' = s then some v else findL L s' := by
 unfold findL putL
 by_cases h : s' = s
 ·subst h
  rw [if_pos rfl, find_insL_yes (by simp)]
  ·rfl
  ·intro y hy
   have := (List.mem_filter.1 hy).2
   simpa using this
 ·rw [if_neg h, find_insL_no (by simp; exact fun e => h e.symm)]
  congr 1
  induction L with
  | nil => rfl
  | cons y L ih =>
   rw [List.filter_cons]
   by_cases e : y.1 = s
   ·rw [if_neg (by simp [e]), List.find?_cons, ih, show (y.1 == s') = false by simp; rw [e]; exact fun e2 => h e2.symm]
   ·rw [if_pos (by simp [e]), List.find?_cons, List.find?_cons, ih]
theorem insL_length (x : NameV) : ∀ L : List NameV, (insL x L).length = L.length + 1
 | [] => rfl
 | y :: L => by
  unfold insL
  split
  ·rfl
  ·rw [List.length_cons, insL_length x L, List.length_cons]
theorem putL_length (L : List NameV) (s : List UInt8) (v : Value) : (putL s v L).length ≤ L.length + 1 := by
 unfold putL
 rw [insL_length]
 have := List.length_filter_le (fun p : NameV => !(p.1 == s)) L
 omega
def SetAt (w : World) (b : Nat) (N : List (List UInt8)) : Prop := ∃ L, MapAt w 9 b L ∧ L.length ≤ N.length ∧ ∀ s, (findL L s).getD (.bool false) = .bool (decide (s ∈ N))
theorem SetAt.made (w : World) : SetAt (w.alloc (.map #[] 0)) w.heap.size [] := ⟨[], MapAt.made w _, Nat.le_refl _, fun s => by simp [findL]⟩
theorem SetAt.mod {F : Nat → Prop} {w w' : World} {b : Nat} {N : List (List UInt8)} (h : SetAt w b N) (hm : Mod F w w') (hb : ¬ F b) : SetAt w' b N := by
 obtain ⟨L, h1, h2, h3⟩ := h
 exact ⟨L, h1.mod hm hb, h2, h3⟩
theorem SetAt.lt {w : World} {b : Nat} {N : List (List UInt8)} (h : SetAt w b N) : b < w.heap.size := by
 obtain ⟨L, h1, _⟩ := h
 exact h1.lt
theorem set_put {L : List NameV} {N : List (List UInt8)} (h : ∀ s, (findL L s).getD (.bool false) = .bool (decide (s ∈ N))) (x : List UInt8) : ∀ s, (findL (putL x (.bool true) L) s).getD (.bool false) = .bool (decide (s ∈ N ++ [x])) := by
 intro s
 rw [findL_put]
 by_cases e : s = x
 ·rw [if_pos e]; simp [e]
 ·rw [if_neg e, h s]; simp [e]
def okLeg (l : Lg) : Bool := nameB l.n && !(l.x == 0)
def legsB (ls : List Lg) : Bool := ls.all okLeg && decide ((ls.map fun l => l.n).Nodup) && decide (2 ≤ ls.length) && decide (ls.length ≤ 6)
theorem legsB_bad {ls : List Lg} {l : Lg} (h : l ∈ ls) (h0 : okLeg l = false) : legsB ls = false := by
 unfold legsB
 have : ls.all okLeg = false := by rw [List.all_eq_false]; exact ⟨l, h, by rw [h0]; simp⟩
 rw [this]; rfl
theorem legsB_two {ls : List Lg} {j : Nat} {l : Lg} (h : ls[j]? = some l) (h0 : l.n ∈ (ls.take j).map fun l => l.n) : legsB ls = false := by
 unfold legsB
 have : decide ((ls.map fun l => l.n).Nodup) = false := by
  rw [decide_eq_false_iff_not]
  intro hn
  have hj : j < ls.length := by
   rcases Nat.lt_or_ge j ls.length with h1 | h1
   ·exact h1
   ·rw [List.getElem?_eq_none h1] at h; cases h
  rw [List.getElem?_eq_getElem hj] at h
  injection h with h
  have e : ls = ls.take j ++ ls[j] :: ls.drop (j + 1) := by rw [← List.drop_eq_getElem_cons hj, List.take_append_drop]
  rw [e, List.map_append, List.nodup_append] at hn
  exact hn.2.2 l.n h0 l.n (by rw [h]; simp) rfl
 rw [this, Bool.and_false]; rfl
set_option maxRecDepth 100000
theorem period_ok (w : World) (x : Int) : Calls Tryz.prog 115 #[.int .i64 x] w fun e w' => e = .returned (.bool (decide (1 ≤ x ∧ x ≤ 1000))) ∧ w = w' := by
 go_enter Tryz.func115, Tryz.ntmps115
 go_wp2_with fail
 all_goals
  go_ret
  first | (simp_all; done) | (simp; omega)
theorem held_ok (w : World) (x : Int) : Calls Tryz.prog 120 #[.int .i64 x] w fun e w' => e = .returned (.bool (decide (1 ≤ x ∧ x ≤ 9999))) ∧ w = w' := by
 go_enter Tryz.func120, Tryz.ntmps120
 go_wp2_with fail
 all_goals
  go_ret
  first | (simp_all; done) | (simp; omega)
theorem zeroB_run (W : World) : (zeroValue 4).run Tryz.prog W = .ok (.bool false) W := by rfl
theorem legs_ok (w : World) (A : Option Addr) (n c : Nat) (ls : List Lg) (h : RdL w A n ls) (hn : n ≤ 140737488355328) (hz : ∀ l ∈ ls, (txt l.n).size ≤ maxLen) :
  Calls Tryz.prog 114 #[.slice A n c] w fun e w' => e = .returned (.bool (legsB ls)) ∧ Mod none_ w w' := by
 have hl := h.len
 have hmk := fun W => run_makeMap (P := Tryz.prog) 249 W
 have cn := zH (fun W s => name_ok W s)
 replace h := zH h
 replace hz := zH hz
 replace hl := zH hl
 go_enter Tryz.func114, Tryz.ntmps114
 go_wp2_with fail
 have hw0 : w.heap.size ≤ (w.alloc (.map #[] 0)).heap.size := by simp
 go_loopg [9] n (fun k x wr => ∃ j : Nat, x = .int .i64 j ∧ j + k = n ∧ SetAt wr w.heap.size ((ls.take j).map fun l => l.n) ∧ (∀ l ∈ ls.take j, okLeg l = true) ∧ ((ls.take j).map fun l => l.n).Nodup ∧ Mod none_ w wr)
 case atStart => exact ⟨0, rfl, by omega, SetAt.made w, (fun l h => by cases h), List.nodup_nil, (Mod.refl _ _).alloc _⟩
 case round =>
  obtain ⟨j, rfl, hj, hM, hall, hnd, hm⟩ := hrel
  by_cases hlt : j < n
  ·obtain ⟨g, o, l, rfl, hmem, hjl, y1, y2⟩ := rdl_get (h.out.mod0 hm) hlt
   have hlok := hz.out l hmem
   have htk : ls.take (j + 1) = ls.take j ++ [l] := by
    have hjlt : j < ls.length := by rw [hl.out]; exact hlt
    rw [List.getElem?_eq_getElem hjlt] at hjl
    injection hjl with hjl
    rw [List.take_succ_eq_append_getElem hjlt, hjl]
   have hno : okLeg l = false → legsB ls = false := legsB_bad hmem
   have cname := zH (fun W => cn.out W (txt l.n))
   rw [show (txt l.n).data.toList = l.n from rfl] at cname
   have hbl := hM.lt
   obtain ⟨L, hL, hLl, hLs⟩ := hM
   have hlen : ((ls.take j).map fun l => l.n).length ≤ n := by rw [List.length_map, List.length_take]; omega
   by_cases hseen : l.n ∈ (ls.take j).map fun l => l.n
   ·have hr : Hid (legsB ls = false) := zH (legsB_two hjl hseen)
    have hlk : (findL L l.n).getD (.bool false) = .bool true := by rw [hLs, decide_eq_true hseen]
    clear hno
    replace hL := zH hL
    replace hLs := zH hLs
    replace hall := zH hall
    replace hnd := zH hnd
    replace hm := zH hm
    replace hmem := zH hmem
    replace hjl := zH hjl
    replace hlok := zH hlok
    replace htk := zH htk
    replace hseen := zH hseen
    replace hlk := zH hlk
    go_wp2_with (refine map_look _ rfl (.tmp 13) (.tmp 15) _ rfl 9 4 Tryz.underlying249 Tryz.underlying9 (zeroB_run _) w.heap.size _ rfl (hL.out.alloc _) (txt l.n) hlok.out rfl ?_; rw [show (txt l.n).data.toList = l.n from rfl, hlk.out])
    go_ret
    exact ⟨by rw [hr.out]; rfl, hm.out.alloc _⟩
   ·have hlk : (findL L l.n).getD (.bool false) = .bool false := by rw [hLs, decide_eq_false hseen]
    cases hb : nameB l.n with
    | false =>
     rw [hb] at cname
     have hr := zH (hno (by unfold okLeg; rw [hb]; rfl))
     clear hno
     replace hL := zH hL
     replace hLs := zH hLs
     replace hall := zH hall
     replace hnd := zH hnd
     replace hm := zH hm
     replace hmem := zH hmem
     replace hjl := zH hjl
     replace hlok := zH hlok
     replace htk := zH htk
     replace hseen := zH hseen
     replace hlk := zH hlk
     replace hb := zH hb
     go_wp2_with (refine map_look _ rfl (.tmp 13) (.tmp 15) _ rfl 9 4 Tryz.underlying249 Tryz.underlying9 (zeroB_run _) w.heap.size _ rfl (hL.out.alloc _) (txt l.n) hlok.out rfl ?_; rw [show (txt l.n).data.toList = l.n from rfl, hlk.out])
     refine (cname.out _).mono ?_
     rintro e w1 ⟨rfl, hm1⟩
     dsimp only
     have hmm := zH ((hm.out.alloc _).trans hm1)
     clear hm1
     go_wp2_with fail
     go_ret
     exact ⟨by rw [hr.out]; rfl, hmm.out⟩
    | true =>
     rw [hb] at cname
     by_cases hx0 : l.x = 0
     ·have hr := zH (hno (by unfold okLeg; rw [hb, hx0]; rfl))
      rw [hx0] at y2
      clear hno
      replace hL := zH hL
      replace hLs := zH hLs
      replace hall := zH hall
      replace hnd := zH hnd
      replace hm := zH hm
      replace hmem := zH hmem
      replace hjl := zH hjl
      replace hlok := zH hlok
      replace htk := zH htk
      replace hseen := zH hseen
      replace hlk := zH hlk
      replace hb := zH hb
      replace hx0 := zH hx0
      go_wp2_with (refine map_look _ rfl (.tmp 13) (.tmp 15) _ rfl 9 4 Tryz.underlying249 Tryz.underlying9 (zeroB_run _) w.heap.size _ rfl (hL.out.alloc _) (txt l.n) hlok.out rfl ?_; rw [show (txt l.n).data.toList = l.n from rfl, hlk.out])
      refine (cname.out _).mono ?_
      rintro e w1 ⟨rfl, hm1⟩
      dsimp only
      have q1 : w1.cell? ⟨wr.heap.size, 1, none⟩ = some (.int .i64 0) := ((Blk.new wr 139 #[.string (txt l.n), .int .i64 0]).mod hm1 (fun h => h)).cell_ rfl
      have hmm := zH ((hm.out.alloc _).trans hm1)
      clear hm1
      go_wp2_with fail
      go_ret
      exact ⟨by rw [hr.out]; rfl, hmm.out⟩
     ·have hx1 : (l.x == 0) = false := by simpa using hx0
      have hyes : okLeg l = true := by unfold okLeg; rw [hb, hx1]; rfl
      clear hno
      replace hL := zH hL
      replace hLs := zH hLs
      replace hall := zH hall
      replace hnd := zH hnd
      replace hm := zH hm
      replace hmem := zH hmem
      replace hjl := zH hjl
      replace hlok := zH hlok
      replace htk := zH htk
      replace hseen := zH hseen
      replace hlk := zH hlk
      replace hb := zH hb
      replace hx0 := zH hx0
      replace hyes := zH hyes
      go_wp2_with (refine map_look _ rfl (.tmp 13) (.tmp 15) _ rfl 9 4 Tryz.underlying249 Tryz.underlying9 (zeroB_run _) w.heap.size _ rfl (hL.out.alloc _) (txt l.n) hlok.out rfl ?_; rw [show (txt l.n).data.toList = l.n from rfl, hlk.out])
      refine (cname.out _).mono ?_
      rintro e w1 ⟨rfl, hm1⟩
      dsimp only
      have hB := (Blk.new wr 139 #[.string (txt l.n), .int .i64 l.x]).mod hm1 (fun h => h)
      have q0 : w1.cell? ⟨wr.heap.size, 0, none⟩ = some (.string (txt l.n)) := hB.cell_ rfl
      have q1 : w1.cell? ⟨wr.heap.size, 1, none⟩ = some (.int .i64 l.x) := hB.cell_ rfl
      have hL1 := zH ((hL.out.alloc _).mod hm1 (fun h => h))
      have hmm := zH ((hm.out.alloc _).trans hm1)
      clear hm1 hB
      go_wp2_with (refine map_store _ rfl (.tmp 28) (.tmp 30) (.const (.bool true)) _ rfl 9 4 Tryz.underlying249 Tryz.underlying9 w.heap.size _ rfl hL1.out (by simp only [maxLen]; omega) (txt l.n) hlok.out rfl (.bool true) rfl ?_; intro w2 hM2 hm2 hs2; replace hM2 := zH hM2; replace hm2 := zH hm2; replace hs2 := zH hs2)
      go_roundg (gk - 1)
      case measure => omega
      case rel =>
       refine ⟨j + 1, by go_num, by omega, ⟨_, hM2.out, ?_, ?_⟩, ?_, ?_, hmm.out.then hm2.out (fun i hi e => by have e2 : i = w.heap.size := e; omega)⟩
       ·rw [htk.out, List.map_append, List.length_append]
        have := putL_length L (txt l.n).data.toList (.bool true)
        simp only [List.map_cons, List.map_nil, List.length_cons, List.length_nil]
        omega
       ·rw [htk.out, List.map_append]
        exact set_put hLs.out l.n
       ·intro y hy
        rw [htk.out, List.mem_append] at hy
        rcases hy with hy | hy
        ·exact hall.out y hy
        ·simp at hy; subst hy; exact hyes.out
       ·rw [htk.out, List.map_append, List.nodup_append]
        refine ⟨hnd.out, by simp, fun a ha b hb2 e => ?_⟩
        simp at hb2
        subst hb2
        subst e
        exact hseen.out ha
  ·obtain rfl : j = n := by omega
   rw [List.take_of_length_le (show ls.length ≤ j by rw [hl.out]; exact Nat.le_refl _)] at hall hnd
   have hr : legsB ls = (decide (2 ≤ j) && decide (j ≤ 6)) := by
    unfold legsB
    rw [List.all_eq_true.2 hall, decide_eq_true hnd, hl.out]; rfl
   replace hM := zH hM
   replace hall := zH hall
   replace hnd := zH hnd
   replace hm := zH hm
   replace hr := zH hr
   go_wp2_with fail
   all_goals
    go_ret
    refine ⟨?_, hm.out⟩
    rw [hr.out]
    refine congrArg (fun b => Ending.returned (Value.bool b)) (?_ : (_ : Bool) = _)
    rw [Bool.eq_iff_iff]
    simp
    omega
end Go.Proofs.YtfkfiokkjjnhiaaGreat
namespace Go.Proofs.YtfkfiokkjjnhiaaGreat
open Go.RowKit
open Go.Maps (Keyed int_keyed)
theorem mapF_store_run {w : World} (t : TypeId) (k e : TypeId) (ht : Tryz.prog.underlying t = some (.map k e)) (hk : Tryz.prog.underlying k = some (.int .i64))
  (b n : Nat) (D : DataW Value) (h : w.ownsMap Tryz.prog k VR b n D) (hroom : n + 1 < maxLen) (s : Int) (hs : (Lit.int .i64 s).wf = true) (val : Value) :
  ∃ w', (Instr.mapUpdate t (.map (some b)) (.int .i64 s) val).run Tryz.prog w = .ok () w' ∧ (∃ n', n' ≤ n + 1 ∧ w'.ownsMap Tryz.prog k VR b n' (D.put (.int .i64 s) (.held val))) ∧ Mod (· = b) w w' ∧ w'.heap.size = w.heap.size := by
 obtain ⟨w', hrun, h1, h2⟩ := h.store (int_keyed hk) ht (by omega) (Go.Maps.keyOf_int_mk hk hs) (d := .held val) (ps := []) (show VR val = some (.held val, []) from rfl)
 refine ⟨w', hrun, ⟨_, Nat.le_refl _, h1⟩, (Mod.of_grown h2.grown).mono fun i hi => by cases hi; rfl, ?_⟩
 obtain ⟨es, c, es', c', _, rfl⟩ := h2
 simp [ChangeMaps.setBlock]
theorem mapF_look_run {w : World} (t : TypeId) (k e : TypeId) (ht : Tryz.prog.underlying t = some (.map k e)) (hk : Tryz.prog.underlying k = some (.int .i64))
  {z : Value} (hz : (zeroValue e).run Tryz.prog w = .ok z w) (b n : Nat) (D : DataW Value) (h : w.ownsMap Tryz.prog k VR b n D) (s : Int) (hs : (Lit.int .i64 s).wf = true) (v : Value) (hv : D.atKey (.int .i64 s) (.held z) = .held v) (f : Bool) (hf : Maps.has D (.int .i64 s) = f) :
  (Instr.lookup t (.map (some b)) (.int .i64 s) true).run Tryz.prog w = .ok (.tuple #[v, .bool f]) w := by
 obtain ⟨v', ps, hrun, h2⟩ := h.look_ok (int_keyed hk) ht hz (zd := .held z) (zp := []) rfl (Go.Maps.keyOf_int_mk hk hs)
 rw [hv] at h2
 have : v' = v := by simp [VR] at h2; exact h2.1
 rw [this, hf] at hrun
 exact hrun
theorem mapF_insert (w : World) {ops : Array Oper} {rest : List Oper} {o : Oper} {a : Act} {Q : Exit → Act → World → Prop} (hg : o.guard = none) (m x v : Operand) (t : TypeId) (hop : o.op = Op.insert t m x v) (k e : TypeId) (ht : Tryz.prog.underlying t = some (.map k e)) (hk : Tryz.prog.underlying k = some (.int .i64))
  (b n : Nat) (D : DataW Value) (hm : a.eval m = .map (some b)) (h : w.ownsMap Tryz.prog k VR b n D) (hroom : n + 1 < maxLen) (s : Int) (hs : (Lit.int .i64 s).wf = true) (hx : a.eval x = .int .i64 s) (val : Value) (hv : a.eval v = val)
  (hK : ∀ w' n', n' ≤ n + 1 → w'.ownsMap Tryz.prog k VR b n' (D.put (.int .i64 s) (.held val)) → Mod (· = b) w w' → w'.heap.size = w.heap.size → wpList Tryz.prog ops Q rest (a.put o.dst undef) w') :
  wpList Tryz.prog ops Q (o :: rest) a w := by
 refine wpList_plain hg fun K' hK' => ?_
 obtain ⟨w', hrun, ⟨n', hn', h1⟩, hm', hs'⟩ := mapF_store_run t k e ht hk b n D h hroom s hs val
 unfold Oper.wp
 simp [execOp, hop, hm, hx, hv, hrun, Result.andThen]
 exact hK' _ _ (hK w' n' hn' h1 hm' hs')
end Go.Proofs.YtfkfiokkjjnhiaaGreat
