import Derived.Test.YtaohgefpnndjcaaNq4
import Derived.Test.YtaohgefpnndjcaaNq3
import Derived.Test.YtaohgefpnndjcaaNq1
import Derived.Lib.Hide
import Derived.Test.YtaohgefpnndjcaaNq2
import Derived.Test.YtaohgefpnndjcaaRows
/-
  The contracts of chart.Name and of the reference's Name.
-/
namespace Go.Proofs.Ytaohgefpnndjcaa
set_option linter.unusedVariables false
open Go.RowKit
def isSign (b : UInt8) : Bool := (97 ≤ b && b ≤ 122) || (48 ≤ b && b ≤ 57)
def nameB (l : List UInt8) : Bool := l.all isSign && decide (0 < l.length) && decide (l.length ≤ 8)
theorem sign_ix_nat : ∀ n, n < 256 → (decide (Lib.indexByte signs.data.toList n.toUInt8 < 0)) = !isSign n.toUInt8 := by decide +kernel
theorem sign_ix (b : UInt8) : (decide (Lib.indexByte signs.data.toList b < 0)) = !isSign b := by
  have := sign_ix_nat b.toNat b.toNat_lt
  rwa [show b.toNat.toUInt8 = b by simp] at this
theorem wide_not_sign (b : UInt8) (h : 128 ≤ b.toNat) : isSign b = false := by
  unfold isSign
  have h1 : ¬ b ≤ 122 := by rw [UInt8.le_iff_toNat_le]; show ¬ b.toNat ≤ 122; omega
  have h2 : ¬ b ≤ 57 := by rw [UInt8.le_iff_toNat_le]; show ¬ b.toNat ≤ 57; omega
  simp [h1, h2]
theorem name_no (s : ByteArray) (i : Nat) (h : i < s.size) (hs : isSign s[i] = false) : nameB s.data.toList = false := by
  unfold nameB
  have : s.data.toList.all isSign = false := by
    rw [List.all_eq_false]
    exact ⟨s[i], Array.getElem_mem_toList (xs := s.data) h, by rw [hs]; simp⟩
  rw [this]; rfl
theorem name_all (s : ByteArray) (h : ∀ i (h : i < s.size), isSign s[i] = true) : nameB s.data.toList = (decide (0 < s.size) && decide (s.size ≤ 8)) := by
  unfold nameB
  have e : s.data.toList.length = s.size := rfl
  have : s.data.toList.all isSign = true := by
    rw [List.all_eq_true]
    intro b hb
    obtain ⟨i, hi, rfl⟩ := List.getElem_of_mem hb
    exact h i hi
  rw [this, e, Bool.true_and]
theorem toList_empty (s : ByteArray) : s.toList.isEmpty = decide (s.size = 0) := by
  show (txt s.data.toList).toList.isEmpty = _
  rw [txt_toList]
  have e : s.data.toList.length = s.size := rfl
  rw [← e]
  cases s.data.toList <;> simp
theorem sget (s : ByteArray) (i : Nat) (h : i < s.size) : (s.get! i) = s[i] := by
  have := get_at s i h
  simpa using this
set_option maxRecDepth 1000000 in
set_option maxHeartbeats 2000000 in
theorem name_ok (w : World) (s : ByteArray) : Calls Try.prog 51 #[.string s] w fun e w' => e = .returned (.bool (nameB s.data.toList)) ∧ Mod none_ w w' := by
  have sg : (⟨#[97, 98, 99, 100, 101, 102, 103, 104, 105, 106, 107, 108, 109, 110, 111, 112, 113, 114, 115, 116, 117, 118, 119, 120, 121, 122, 48, 49, 50, 51, 52, 53, 54, 55, 56, 57]⟩ : ByteArray) = signs := rfl
  have ca := Lib.hid (fun (W : World) (r : Nat) (h : r < 128) => Try.strings_IndexRune_ascii signs (r : Int) W (by omega) (by omega))
  have cw := Lib.hid (fun (W : World) (r : Nat) h1 h2 => ixr_any W r h1 h2)
  go_enter Try.func51, Try.ntmps51
  go_wp2_with fail
  go_loopw [] (fun wr => ∃ pos : Nat, wr.heap[w.heap.size]? = some (.stringIter s pos) ∧ Mod none_ w wr ∧ pos ≤ s.size ∧ ∀ i (h : i < s.size), i < pos → isSign s[i] = true) (fun wr => s.size - wr.iterPos w.heap.size)
  case atStart =>
    refine ⟨0, World.iter_heap w s 0, ?_, by omega, fun i _ h => by omega⟩
    exact (Mod.refl none_ w).alloc _
  case round =>
    obtain ⟨pos, hit, hm, hp, hall⟩ := hrel
    have hsz : w.heap.size < wr.heap.size := (Array.getElem?_eq_some_iff.1 hit).1
    by_cases hlt : pos < s.size
    · have hnx : ∀ ty, (Instr.next (.pointer (some ⟨w.heap.size, 0, none⟩)) true ty).run Try.prog wr = _ := fun ty => Lib.run_next_any_at wr w.heap.size s pos ty hit hlt
      have hm2 : Mod none_ w (wr.iterAt w.heap.size s (pos + (Utf8.decode s pos).2)) := Mod.of_below (Lib.below_iterAt hm.below0 (k := w.heap.size) (by omega) s _)
      have hit2 := Lib.iterAt_heap wr w.heap.size s pos (pos + (Utf8.decode s pos).2) hit
      by_cases hb : (s[pos]'hlt).toNat < 128
      · rw [decode_ascii s pos hlt hb] at hnx hm2 hit2
        have hix := sign_ix (s[pos]'hlt)
        have hc := Lib.hid (fun W => ca.out W (s[pos]'hlt).toNat hb)
        have eb : (((s[pos]'hlt).toNat : Int).toNat).toUInt8 = s[pos]'hlt := by simp
        rw [eb] at hc
        cases hs : isSign (s[pos]'hlt) with
        | true =>
          rw [hs] at hix
          have hix2 : ¬ (Lib.indexByte signs.data.toList (s[pos]'hlt) < 0) := by simpa using hix
          have hnext : ∀ i (h : i < s.size), i < pos + 1 → isSign s[i] = true := by
            intro i h h1
            by_cases e : i = pos
            · subst e; exact hs
            · exact hall i h (by omega)
          generalize Lib.indexByte signs.data.toList (s[pos]'hlt) = v at *
          unfold signs at hc
          replace hall := Lib.hid hall
          replace hm := Lib.hid hm
          replace hit := Lib.hid hit
          replace hm2 := Lib.hid hm2
          replace hit2 := Lib.hid hit2
          replace hix := Lib.hid hix
          replace hnext := Lib.hid hnext
          replace hs := Lib.hid hs
          replace hb := Lib.hid hb
          replace eb := Lib.hid eb
          go_wp2_with fail
          refine (hc.out _).mono ?_
          rintro e w1 ⟨rfl, rfl⟩
          dsimp only
          go_wp2_with fail
          go_roundw
          case rel => exact ⟨pos + 1, hit2.out, hm2.out, by omega, hnext.out⟩
          case measure => simp only [World.iterPos, hit2.out, hit.out]; omega
        | false =>
          rw [hs] at hix
          have hix2 : Lib.indexByte signs.data.toList (s[pos]'hlt) < 0 := by simpa using hix
          have hno := name_no s pos hlt hs
          generalize Lib.indexByte signs.data.toList (s[pos]'hlt) = v at *
          unfold signs at hc
          replace hall := Lib.hid hall
          replace hm := Lib.hid hm
          replace hit := Lib.hid hit
          replace hm2 := Lib.hid hm2
          replace hit2 := Lib.hid hit2
          replace hix := Lib.hid hix
          replace hs := Lib.hid hs
          replace hb := Lib.hid hb
          replace eb := Lib.hid eb
          go_wp2_with fail
          refine (hc.out _).mono ?_
          rintro e w1 ⟨rfl, rfl⟩
          dsimp only
          go_wp2_with fail
          go_ret
          refine ⟨?_, hm2.out⟩
          rw [hno]; rfl
      · have hd := decode_high s pos hlt (by omega)
        have hdv : (Utf8.decode s pos).1 < 55296 ∨ (57343 < (Utf8.decode s pos).1 ∧ (Utf8.decode s pos).1 ≤ 1114111) := by
          rw [Lib.decode_at]
          exact Lib.decodeN_valid _ _ _ _ _ (UInt8.toNat_lt _)
        have hc := Lib.hid (fun W => cw.out W _ hd.1 hdv)
        have hno := name_no s pos hlt (wide_not_sign _ (by omega))
        generalize (Utf8.decode s pos).1 = r at *
        generalize (Utf8.decode s pos).2 = k at *
        unfold signs at hc
        replace hall := Lib.hid hall
        replace hm := Lib.hid hm
        replace hit := Lib.hid hit
        replace hm2 := Lib.hid hm2
        replace hit2 := Lib.hid hit2
        replace hd := Lib.hid hd
        replace hdv := Lib.hid hdv
        replace hb := Lib.hid hb
        go_wp2_with fail
        refine (hc.out _).mono ?_
        rintro e w1 ⟨rfl, hm3⟩
        dsimp only
        replace hm3 := Lib.hid hm3
        go_wp2_with fail
        go_ret
        refine ⟨?_, hm2.out.then hm3.out (fun _ _ h => h)⟩
        rw [hno]; rfl
    · have hnx : ∀ ty, (Instr.next (.pointer (some ⟨w.heap.size, 0, none⟩)) true ty).run Try.prog wr = _ := fun ty => Lib.run_next_end_at wr w.heap.size s pos ty hit hlt
      have hres := name_all s (fun i h => hall i h (by omega))
      have he := toList_empty s
      by_cases hz : s.size = 0
      · rw [decide_eq_true hz] at he
        replace hall := Lib.hid hall
        replace hm := Lib.hid hm
        replace hit := Lib.hid hit
        go_wp2_with fail
        go_ret
        refine ⟨?_, hm.out⟩
        rw [hres, hz]; rfl
      · rw [decide_eq_false hz] at he
        replace hall := Lib.hid hall
        replace hm := Lib.hid hm
        replace hit := Lib.hid hit
        go_wp2_with fail
        go_ret
        refine ⟨?_, hm.out⟩
        rw [hres, decide_eq_true (show 0 < s.size by omega), Bool.true_and]
        show Ending.returned (.bool (decide ((s.size : Int) ≤ 8))) = _
        congr 2
        exact decide_eq_decide.2 (by omega)
end Go.Proofs.Ytaohgefpnndjcaa
/-
  The contract of chart's Open.
-/
namespace Go.Proofs.Ytaohgefpnndjcaa
set_option linter.unusedVariables false
open Go.RowKit
def openR (C : List Ac) (s : List UInt8) (x : Int) : List Ac × Int :=
  if nameB s = false ∨ x < 0 then (C, 1) else if (getC C s).isSome then (C, 7) else if C.length = 12 then (C, 5) else (insC ⟨s, 0, 0, x⟩ C, 0)
set_option maxRecDepth 100000 in
set_option maxHeartbeats 2000000 in
theorem open_arg (w : World) (p b : Nat) (C : List Ac) (s : ByteArray) (x : Int) (hc : ChAt w p b C) (h : nameB s.data.toList = false ∨ x < 0) :
    Calls Try.prog 26 #[.pointer (some ⟨p, 0, none⟩), .string s, .int .i64 x] w (ChPost w p b (openR C s.data.toList x)) := by
  have cn := Lib.hid (name_ok w s)
  unfold openR
  rw [if_pos h]
  cases hn : nameB s.data.toList with
  | false =>
    rw [hn] at cn
    replace hc := Lib.hid hc
    replace h := Lib.hid h
    replace hn := Lib.hid hn
    go_enter Try.func26, Try.ntmps26
    go_wp2_with fail
    refine cn.out.mono ?_
    rintro e w1 ⟨rfl, hm⟩
    dsimp only
    replace hm := Lib.hid hm
    go_wp2_with fail
    go_ret
    exact ⟨rfl, hc.out.mod0 hm.out, hm.out.any _⟩
  | true =>
    rw [hn] at cn h
    have hx : x < 0 := by rcases h with h | h; cases h; exact h
    clear h
    replace hc := Lib.hid hc
    replace hn := Lib.hid hn
    go_enter Try.func26, Try.ntmps26
    go_wp2_with fail
    refine cn.out.mono ?_
    rintro e w1 ⟨rfl, hm⟩
    dsimp only
    replace hm := Lib.hid hm
    go_wp2_with fail
    go_ret
    exact ⟨rfl, hc.out.mod0 hm.out, hm.out.any _⟩
set_option maxRecDepth 100000 in
set_option maxHeartbeats 2000000 in
theorem open_go (w : World) (p b : Nat) (C : List Ac) (s : ByteArray) (x : Int) (hc : ChAt w p b C) (hs : s.size ≤ maxLen) (hroom : C.length + 1 < maxLen) (hn : nameB s.data.toList = true) (hx : ¬ x < 0) :
    Calls Try.prog 26 #[.pointer (some ⟨p, 0, none⟩), .string s, .int .i64 x] w (ChPost w p b (openR C s.data.toList x)) := by
  have cn := Lib.hid (name_ok w s)
  rw [hn] at cn
  unfold openR
  rw [if_neg (by rintro (h | h); rw [hn] at h; cases h; exact hx h)]
  have hf := find_ents C s.data.toList
  have hlen : (ents C).length = C.length := by unfold ents; rw [List.length_map]
  cases hg : getC C s.data.toList with
  | some a =>
    rw [hg] at hf
    rw [if_pos (show (some a).isSome = true from rfl)]
    replace hc := Lib.hid hc
    replace hn := Lib.hid hn
    replace hs := Lib.hid hs
    replace hf := Lib.hid hf
    replace hg := Lib.hid hg
    replace hroom := Lib.hid hroom
    replace hlen := Lib.hid hlen
    go_enter Try.func26, Try.ntmps26
    go_wp2_with fail
    refine cn.out.mono ?_
    rintro e w1 ⟨rfl, hm⟩
    dsimp only
    have hch1 := hc.out.mod0 hm
    have hcell : w1.cell? ⟨p, 0, none⟩ = some (.map (some b)) := hch1.1.cell_ rfl
    have hlt := hch1.1.lt
    replace hm := Lib.hid hm
    replace hch1 := Lib.hid hch1
    go_wp2_with (refine map_look_ok _ rfl (.tmp 24) (.tmp 25) _ rfl 9 46 Try.underlying67 Try.underlying9 (zeroA_run _) b _ rfl hch1.out.2.1 s hs.out rfl ?_; rw [hf.out]; simp only [Option.map_some, Option.getD_some, Option.isSome_some, acV])
    go_ret
    exact ⟨rfl, hch1.out.alloc _, (hm.out.alloc _).any _⟩
  | none =>
    rw [hg] at hf
    rw [if_neg (by simp)]
    by_cases hl : C.length = 12
    · rw [if_pos hl]
      have hle : ((ents C).length : Int) = 12 := by omega
      replace hc := Lib.hid hc
      replace hn := Lib.hid hn
      replace hs := Lib.hid hs
      replace hf := Lib.hid hf
      replace hg := Lib.hid hg
      replace hroom := Lib.hid hroom
      replace hlen := Lib.hid hlen
      replace hl := Lib.hid hl
      go_enter Try.func26, Try.ntmps26
      go_wp2_with fail
      refine cn.out.mono ?_
      rintro e w1 ⟨rfl, hm⟩
      dsimp only
      have hch1 := hc.out.mod0 hm
      have hcell : w1.cell? ⟨p, 0, none⟩ = some (.map (some b)) := hch1.1.cell_ rfl
      have hlt := hch1.1.lt
      replace hm := Lib.hid hm
      replace hch1 := Lib.hid hch1
      go_wp2_with (first
        | (refine map_look_ok _ rfl (.tmp 24) (.tmp 25) _ rfl 9 46 Try.underlying67 Try.underlying9 (zeroA_run _) b _ rfl hch1.out.2.1 s hs.out rfl ?_; rw [hf.out]; simp only [Option.map_none, Option.getD_none, Option.isSome_none, zeroA])
        | (refine map_len _ rfl (.tmp 35) _ rfl 9 46 Try.underlying67 b _ rfl (hch1.out.2.1.alloc _) ?_; rw [hle]))
      go_ret
      exact ⟨rfl, hch1.out.alloc _, (hm.out.alloc _).any _⟩
    · rw [if_neg hl]
      have hle : (((ents C).length : Int) == 12) = false := by simp; omega
      have hput := put_new (C := C) (a := ⟨s.data.toList, 0, 0, x⟩) hg
      replace hc := Lib.hid hc
      replace hn := Lib.hid hn
      replace hs := Lib.hid hs
      replace hf := Lib.hid hf
      replace hg := Lib.hid hg
      replace hroom := Lib.hid hroom
      replace hlen := Lib.hid hlen
      replace hl := Lib.hid hl
      replace hput := Lib.hid hput
      go_enter Try.func26, Try.ntmps26
      go_wp2_with fail
      refine cn.out.mono ?_
      rintro e w1 ⟨rfl, hm⟩
      dsimp only
      have hch1 := hc.out.mod0 hm
      have hcell : w1.cell? ⟨p, 0, none⟩ = some (.map (some b)) := hch1.1.cell_ rfl
      have hlt := hch1.1.lt
      replace hm := Lib.hid hm
      replace hch1 := Lib.hid hch1
      go_wp2_with (first
        | (refine map_look_ok _ rfl (.tmp 24) (.tmp 25) _ rfl 9 46 Try.underlying67 Try.underlying9 (zeroA_run _) b _ rfl hch1.out.2.1 s hs.out rfl ?_; rw [hf.out]; simp only [Option.map_none, Option.getD_none, Option.isSome_none, zeroA])
        | (refine map_len _ rfl (.tmp 35) _ rfl 9 46 Try.underlying67 b _ rfl (hch1.out.2.1.alloc _) ?_)
        | (refine map_store _ rfl (.tmp 41) (.tmp 42) (.tmp 45) _ rfl 9 46 Try.underlying67 Try.underlying9 b _ rfl (hch1.out.2.1.alloc _) (by rw [hlen.out]; exact hroom.out) s hs.out rfl (acV ⟨s.data.toList, 0, 0, x⟩) rfl ?_; intro W' hM' hm' hsz'; rw [hput.out] at hM'; replace hM' := Lib.hid hM'; replace hm' := Lib.hid hm'; replace hsz' := Lib.hid hsz'))
      go_ret
      exact ⟨rfl, ⟨(hch1.out.1.alloc _).mod hm'.out hch1.out.2.2, hM'.out, hch1.out.2.2⟩, ((hm.out.alloc _).any _).trans hm'.out⟩
end Go.Proofs.Ytaohgefpnndjcaa
/-
  slices.Sorted(maps.Keys(m)): the names of the entries, in their order; maps.Clone. By the kit's contracts.
-/
namespace Go.Proofs.Ytaohgefpnndjcaa
set_option linter.unusedVariables false
open Go.RowKit Go.Maps Go.Sort Go.Shelf
theorem bb_lt : ∀ a b : List UInt8, bytesBefore a b = true ↔ a < b
  | [], [] => by simp [bytesBefore]
  | [], _ :: _ => by simp [bytesBefore]
  | _ :: _, [] => by simp [bytesBefore]
  | x :: a, y :: b => by
    rw [bb_cons, bb_lt a b, List.cons_lt_cons_iff]
theorem bb_le {a b : List UInt8} (h : bytesBefore a b = true) : a ≤ b := by
  have h1 : ¬ b < a := by
    rw [← bb_lt]
    rw [bb_asymm h]; simp
  exact h1
theorem keys_sorted (L : List NameV) (hs : Sorted L) (ss : List (List UInt8)) (hp : ss.Perm (strKeys (mapD L))) : ss.mergeSort (fun x y => decide (x ≤ y)) = L.map (·.1) := by
  have e : strKeys (mapD L) = L.map (·.1) := by
    show (L.map ent).map (fun p => strOf p.1) = _
    rw [List.map_map]
    rfl
  rw [e] at hp
  have hp2 : (ss.mergeSort (fun x y => decide (x ≤ y))).Perm (L.map (·.1)) := (List.mergeSort_perm _ _).trans hp
  have h1 : (ss.mergeSort (fun x y => decide (x ≤ y))).Pairwise (fun a b => a ≤ b) := by
    have := List.pairwise_mergeSort (le := fun (x y : List UInt8) => decide (x ≤ y)) (fun a b c h g => by simp only [decide_eq_true_eq] at *; exact List.le_trans h g) (fun a b => by simp only [Bool.or_eq_true, decide_eq_true_eq]; exact List.le_total a b) ss
    exact this.imp (by intro a b h; simpa using h)
  have h2 : (L.map (·.1)).Pairwise (fun a b => a ≤ b) := by
    rw [List.pairwise_map]
    exact hs.imp (fun h => bb_le h)
  exact hp2.eq_of_pairwise (fun a b _ _ h g => List.le_antisymm h g) h1 h2
theorem ow_of_row {w : World} {base : Nat} {e : TypeId} {v : Value} {n : Nat} {xs : List Value} (h : w.ownsRow base e 1 v n xs) : ∃ A c, v = .slice A n c ∧ Ow w e 1 A n c xs ∧ ∀ a, A = some a → base ≤ a.block := by
  obtain ⟨h1, h2⟩ := h
  rcases h2 with ⟨rfl, rfl⟩ | ⟨g, cap, cur, rfl, hb, hg, h3, h4, h5, h6⟩
  · exact ⟨none, 0, rfl, ⟨h1, Nat.le_refl _, Nat.zero_le _, .inl ⟨rfl, rfl, rfl⟩⟩, fun a h => by cases h⟩
  · exact ⟨_, _, rfl, ⟨h1, h3, h4, .inr ⟨g, cur, rfl, hg, by omega, h6⟩⟩, fun a h => by cases h; exact hb⟩
/-- slices.Sort's two contracts at this program, at the fence that asks nothing. -/
theorem sorts_in (m : Nat) : AnyZ.SortsIn Try.prog Try.sorted42_ren Fence.wide m :=
  ⟨fun blk off cap ss W hH hblk hsz => callsIn_wide.2 (AnyM.slices_Sort_string Try.sort63 blk off cap ss W hH hblk hsz),
   fun p cap W => callsIn_wide.2 (AnyM.slices_Sort_string_none Try.sort63 p cap W)⟩
theorem keys_ok (mb : Option Nat) (W : World) : Calls Try.prog 43 #[.map mb] W fun e w' => e = .returned (.func (.func 64) #[] #[.pointer (some ⟨W.heap.size, 0, none⟩)]) ∧ w' = W.alloc (.cells #[.map mb] 67) :=
  (callsIn_wide (n := 5)).1 (AnyZ.keys_in Try.keys43 Fence.wide 5 trivial rfl mb W)
def nvs (l : List (List UInt8)) : List Value := l.map encStr
set_option maxHeartbeats 1000000 in
theorem sorted_ok (w : World) (b : Nat) (L : List NameV) (h : MapAt w 9 b L) (hmax : L.length ≤ 1000) :
    Calls Try.prog 42 #[.func (.func 64) #[] #[.pointer (some ⟨w.heap.size, 0, none⟩)]] (w.alloc (.cells #[.map (some b)] 67))
      fun e w' => ∃ A c, e = .returned (.slice A L.length c) ∧ Rd w' 1 A L.length (nvs (L.map (·.1))) ∧ Mod none_ w w' := by
  have hown := h.tight
  have hbl := hown.lt
  have hsz : Maps.size (mapD L) = L.length := size_mapD L
  have hseq : SeqGives Fence.wide 2 Try.prog 64 #[.pointer (some ⟨w.heap.size, 0, none⟩)] encStr (fun ss => ss.Perm (strKeys (mapD L))) (Maps.size (mapD L)) (w.alloc (.cells #[.map (some b)] 67)) :=
    AnyZ.keys_gives (ρ := Try.keys43_ren) { Try.keys43 with } Fence.wide _ trivial rfl (by omega) w.heap.size b L.length (mapD L) _ (by simp) (by simp) (by
      obtain ⟨es, clock, hb, Ft, hs, hD⟩ := hown
      exact ⟨es, clock, (Below.heap_alloc _ _ b hbl).trans hb, Ft, hs, hD⟩)
  have := AnyZ.sorted_in Try.sorted42 Fence.wide 5 trivial trivial trivial trivial rfl (by omega) (sorts_in _) (enters_of Try.func63 (by kernel_rfl) rfl) 64 #[.pointer (some ⟨w.heap.size, 0, none⟩)] trivial (enters_of Try.func64 (by kernel_rfl) rfl) _ _ (by rw [hsz]; unfold maxLen; omega) (by rw [hsz]; omega) _ hseq
  refine (callsIn_wide.1 this).mono ?_
  rintro e w' ⟨v, ss, rfl, hS, hrow, hnil, hb⟩
  have hk := keys_sorted L (h.sorted Try.underlying9) ss hS
  have hlen : ss.length = L.length := by
    have := congrArg List.length hk
    rw [List.length_mergeSort, List.length_map] at this; exact this
  rw [hk] at hrow
  obtain ⟨A, c, rfl, ho, _⟩ := ow_of_row hrow
  rw [hlen] at ho ⊢
  exact ⟨A, c, rfl, ho.rd, ((Mod.refl none_ w).alloc _).then (Mod.of_below hb) (fun _ _ h => h)⟩
set_option maxHeartbeats 1000000 in
theorem clone_ok (w : World) (b : Nat) (L : List NameV) (h : MapAt w 9 b L) :
    Calls Try.prog 45 #[.map (some b)] w fun e w' => e = .returned (.map (some w.heap.size)) ∧ MapAt w' 9 w.heap.size L ∧ Mod none_ w w' ∧ w.heap.size < w'.heap.size := by
  obtain ⟨n, hn, hown⟩ := h
  refine (AnyW.maps_Clone_owns Try.clone45 _ VR b n (mapD L) w hown).mono ?_
  rintro e w' ⟨rfl, h1, h2, h3⟩
  exact ⟨rfl, ⟨n, hn, h1⟩, Mod.of_below h3, h1.lt⟩
end Go.Proofs.Ytaohgefpnndjcaa
/-
  append of bytes as one step of the walk, with the types of this program filled in; slices of bytes that the walk builds. No condition.
-/
namespace Go.Proofs.Ytaohgefpnndjcaa
set_option linter.unusedVariables false
open Go.RowKit
theorem u8info : (Try.prog.info? 5).map (fun i => (i.zero, i.size, i.bytes)) = some (some (.int .u8 0), 1, 1) := by kernel_rfl
theorem rdb_one (w : World) (e : TypeId) {x : Int} {b : UInt8} (h : x = (b.toNat : Int)) : RdB (w.alloc (.cells #[.int .u8 x] e)) (some ⟨w.heap.size, 0, none⟩) 1 [b] := by
  subst h
  exact rdn w e 1 1 w.heap.size #[.int .u8 (b.toNat : Int)] (0, 0) rfl rfl
theorem i64info : (Try.prog.info? 2).map (fun i => (i.zero, i.size, i.bytes)) = some (some (.int .i64 0), 1, 8) := by kernel_rfl
def RdI (w : World) (A : Option Addr) (n : Nat) (l : List Int) : Prop := Rd w 1 A n (ivs l)
def OwI (w : World) (A : Option Addr) (n c : Nat) (l : List Int) : Prop := Ow w 2 1 A n c (ivs l)
theorem RdI.len {w : World} {A : Option Addr} {n : Nat} {l : List Int} (h : RdI w A n l) : l.length = n := by have := h.1; rw [ivs_length] at this; omega
theorem OwI.len {w : World} {A : Option Addr} {n c : Nat} {l : List Int} (h : OwI w A n c l) : l.length = n := by have := h.1; rw [ivs_length] at this; omega
theorem app64 {w : World} {ops : Array Oper} {rest : List Oper} {o : Oper} {a : Act} {Q : Exit → Act → World → Prop} (hgd : o.guard = none) (s x : Operand)
    (ho : o.op = .call { callee := .builtin .append, args := #[s, x], argTypes := #[58, 58] })
    {A : Option Addr} {n c : Nat} {xs : List Int} (hs : a.eval s = .slice A n c) (hown : OwI w A n c xs)
    {S : Option Addr} {m d : Nat} {news : List Int} (hx : a.eval x = .slice S m d) (hr : RdI w S m news) (hb : (n + m) * 8 ≤ 140737488355328)
    (h : ∀ A' c' w', OwI w' A' (n + m) c' (xs ++ news) → Mod (fp A) w w' → (A' = A ∨ A' = some ⟨w.heap.size, 0, none⟩) → wpList Try.prog ops Q rest (a.put o.dst (.slice A' (n + m) c')) w') : wpList Try.prog ops Q (o :: rest) a w := by
  obtain ⟨i0, hi, hz0, hz1, hz2⟩ := info_parts i64info
  refine wpList_append_ow hgd s x 58 ho 2 i0 _ 1 8 Try.underlying58 hi hz0 hz1 hz2 rfl (by omega) A n c (ivs xs) hs hown S m d (ivs news) hx hr (ivs_one _) (by omega) (by omega) ?_
  intro A' c' w' h1
  rw [← ivs_append] at h1
  exact h A' c' w' h1
theorem rdi_one (w : World) (e : TypeId) (x : Int) : RdI (w.alloc (.cells #[.int .i64 x] e)) (some ⟨w.heap.size, 0, none⟩) 1 [x] :=
  rdn w e 1 1 w.heap.size #[.int .i64 x] (0, 0) rfl rfl
/-- A row that was new stays new. -/
theorem Fresh.app {w w1 : World} {A A' : Option Addr} (h : Fresh w A) (hs : w.heap.size ≤ w1.heap.size) (hA : A' = A ∨ A' = some ⟨w1.heap.size, 0, none⟩) : Fresh w A' := by
  rcases hA with rfl | rfl
  · exact h
  · intro a ha; cases ha; exact hs
theorem Mod.app {w w1 w2 : World} {A : Option Addr} (h : Mod none_ w w1) (hf : Fresh w A) (h2 : Mod (fp A) w1 w2) : Mod none_ w w2 :=
  h.then h2 fun i hi hk => by
    obtain ⟨a, ha, rfl⟩ := hk
    have := hf a ha
    omega
end Go.Proofs.Ytaohgefpnndjcaa
