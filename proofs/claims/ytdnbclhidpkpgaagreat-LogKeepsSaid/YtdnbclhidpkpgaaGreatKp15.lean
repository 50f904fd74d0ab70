import Derived.Test.YtdnbclhidpkpgaaGreatKp10
import Derived.Test.YtdnbclhidpkpgaaGreatKp13
import Derived.Test.YtdnbclhidpkpgaaGreatKp14
import Derived.Deep.RegionHeld3
import Derived.Test.YtdnbclhidpkpgaaGreatKp12
import Derived.Deep.LoopGhost
/-
  slices.Concat of lists of bytes, however many. No condition.
-/
namespace Go.Proofs.YtdnbclhidpkpgaaGreat
set_option linter.unusedVariables false
set_option linter.unusedSimpArgs false
open Go.RowKit
def SameWB (w wr : World) : Prop := w = wr
/-- lists of bytes: their slices' values ss, what they hold lls -/
def BsAt (w : World) (G : Option Addr) (m : Nat) (ss : List SV) (lls : List (List UInt8)) : Prop :=
  Rd w 1 G m (ss.map SV.v) ∧ ss.length = lls.length ∧ ∀ (i : Nat) (s : SV) (l : List UInt8), ss[i]? = some s → lls[i]? = some l → RdB w s.a s.n l ∧ s.n ≤ 100000000
theorem BsAt.mod0 {w w' : World} {G : Option Addr} {m : Nat} {ss : List SV} {lls : List (List UInt8)} (h : BsAt w G m ss lls) (hm : Mod none_ w w') : BsAt w' G m ss lls :=
  ⟨Rd.mod0 h.1 hm, h.2.1, fun i s l hs hl => ⟨Rd.mod0 (h.2.2 i s l hs hl).1 hm, (h.2.2 i s l hs hl).2⟩⟩
theorem BsAt.len {w : World} {G : Option Addr} {m : Nat} {ss : List SV} {lls : List (List UInt8)} (h : BsAt w G m ss lls) : lls.length = m := by
  have h1 := h.1.1
  rw [List.length_map] at h1
  have := h.2.1
  omega
theorem BsAt.get {w : World} {G : Option Addr} {m : Nat} {ss : List SV} {lls : List (List UInt8)} (h : BsAt w G m ss lls) {j : Nat} (hj : j < m) :
    ∃ b o A n c l, G = some ⟨b, o, none⟩ ∧ w.cell? ⟨b, o + j, none⟩ = some (.slice A n c) ∧ lls[j]? = some l ∧ RdB w A n l ∧ n ≤ 100000000 := by
  obtain ⟨b, o, e, hc⟩ := Rd.form h.1 (show 0 < m by omega) (by omega)
  have hl := h.len
  have hs := h.2.1
  have hjs : j < ss.length := by omega
  have hjl : j < lls.length := by omega
  obtain ⟨h1, h2⟩ := h.2.2 j ss[j] lls[j] (List.getElem?_eq_getElem hjs) (List.getElem?_eq_getElem hjl)
  refine ⟨b, o, ss[j].a, ss[j].n, ss[j].c, lls[j], e, ?_, List.getElem?_eq_getElem hjl, h1, h2⟩
  exact hc j _ (by rw [List.getElem?_map, List.getElem?_eq_getElem hjs]; rfl)
theorem BsAt.nil (w : World) : BsAt w none 0 [] [] := ⟨Rd.none_, rfl, fun i s l hs _ => by simp at hs⟩
def preB (lls : List (List UInt8)) (j : Nat) : Nat := (lls.take j).flatten.length
theorem preB_succ {lls : List (List UInt8)} {j : Nat} {l : List UInt8} (h : lls[j]? = some l) : (lls.take (j + 1)).flatten = (lls.take j).flatten ++ l ∧ preB lls (j + 1) = preB lls j + l.length := by
  have hj : j < lls.length := by
    rcases Nat.lt_or_ge j lls.length with hh | hh
    · exact hh
    · rw [List.getElem?_eq_none hh] at h; cases h
  rw [List.getElem?_eq_getElem hj] at h
  injection h with h
  have e : (lls.take (j + 1)).flatten = (lls.take j).flatten ++ l := by
    rw [List.take_succ_eq_append_getElem hj, List.flatten_append, h]; simp
  exact ⟨e, by unfold preB; rw [e, List.length_append]⟩
set_option maxRecDepth 100000 in
set_option maxHeartbeats 2000000 in
theorem concatB_ok (w : World) (G : Option Addr) (m d : Nat) (ss : List SV) (lls : List (List UInt8)) (h : BsAt w G m ss lls) (hm1 : m ≤ 1000) :
    Calls Tryz.prog 48 #[.slice G m d] w (BytesPost w lls.flatten) := by
  have hl := h.len
  have hb : ∀ j, j ≤ m → preB lls j ≤ j * 100000000 := by
    intro j
    induction j with
    | zero => intro _; unfold preB; simp
    | succ j ih =>
      intro hj
      have := ih (by omega)
      obtain ⟨b, o, A, n, c, l, _, _, hl2, hr, hn⟩ := h.get (show j < m by omega)
      have h2 := (preB_succ hl2).2
      have h3 := hr.len
      omega
  have hfull : lls.take m = lls := List.take_of_length_le (by omega)
  have hpm : preB lls m = lls.flatten.length := by unfold preB; rw [hfull]
  have hbm := hb m (by omega)
  have gr := Lib.hid (fun W => grow_ok W (preB lls m) (by omega))
  replace h := Lib.hid h
  replace hfull := Lib.hid hfull
  replace hb := Lib.hid hb
  replace hpm := Lib.hid hpm
  go_enter Tryz.func48, Tryz.ntmps48
  go_wp2_with fail
  go_loopw [3, 11] (fun s x wr => ∃ j : Nat, x = .int .i64 j ∧ s = .int .i64 (preB lls j : Nat) ∧ j ≤ m ∧ SameWB w wr) (fun _ x _ => m - (intOf x).toNat)
  case atStart => exact ⟨0, rfl, by unfold preB; simp, by omega, rfl⟩
  case round =>
    obtain ⟨j, rfl, rfl, hj, hw⟩ := hrel
    cases hw
    by_cases hlt : j < m
    · obtain ⟨b, o, A, n, c, l, rfl, hc, hl2, hr, hn⟩ := h.out.get hlt
      have h2 := (preB_succ hl2).2
      have h3 := hr.len
      have h4 := hb.out j hj
      have h5 : j * 100000000 ≤ 100000000000 := by omega
      rw [h3] at h2
      generalize preB lls j = pj at *
      have h6 : wrap64 ((pj : Int) + (n : Int)) = ((pj + n : Nat) : Int) := by unfold wrap64; omega
      replace hl2 := Lib.hid hl2
      replace hr := Lib.hid hr
      replace h2 := Lib.hid h2
      replace h3 := Lib.hid h3
      go_wp2_with fail
      go_roundw
      case rel => exact ⟨j + 1, by go_num, by rw [h2.out]; simp, by omega, rfl⟩
      case measure => simp [intOf]; omega
    · have hjm : j = m := by omega
      subst hjm
      go_wp2_with fail
      refine (gr.out _).mono ?_
      rintro e w1 ⟨A0, c0, rfl, ho0, hf0, hm0⟩
      dsimp only
      replace ho0 := Lib.hid ho0
      replace hf0 := Lib.hid hf0
      replace hm0 := Lib.hid hm0
      go_wp2_with fail
      go_loopw [6, 27] (fun v x wr => ∃ i : Nat, x = .int .i64 i ∧ i ≤ j ∧ ∃ A' c', v = .slice A' (preB lls i) c' ∧ OwB wr 5 A' (preB lls i) c' (lls.take i).flatten ∧ Fresh w A' ∧ Mod none_ w wr) (fun _ x _ => j - (intOf x).toNat)
      case atStart =>
        refine ⟨0, rfl, by omega, A0, c0, ?_, ?_, hf0.out, hm0.out⟩
        · unfold preB; simp
        · have := ho0.out; unfold preB; simpa using this
      case round =>
        obtain ⟨i, rfl, hi, A', c', rfl, how, hf, hm⟩ := hrel
        by_cases hlt2 : i < j
        · obtain ⟨b, o, A, n, c, l, rfl, hc, hl2, hr, hn⟩ := (h.out.mod0 hm).get hlt2
          obtain ⟨e1, e2⟩ := preB_succ hl2
          have h3 := hr.len
          have h4 := hb.out i hi
          have h5 : i * 100000000 ≤ 100000000000 := by omega
          rw [h3] at e2
          generalize preB lls i = pj at *
          replace how := Lib.hid how
          replace hf := Lib.hid hf
          replace hm := Lib.hid hm
          replace hl2 := Lib.hid hl2
          replace hr := Lib.hid hr
          replace e1 := Lib.hid e1
          replace e2 := Lib.hid e2
          replace h3 := Lib.hid h3
          go_wp2_with (at_builtin; go_loud (refine app8 rfl (.tmp 31) (.tmp 32) rfl rfl how.out rfl hr.out (by omega) ?_; intro A2 c2 w2 ho2 hm2 hA2; replace ho2 := Lib.hid ho2; replace hm2 := Lib.hid hm2; replace hA2 := Lib.hid hA2))
          go_roundw
          case rel =>
            refine ⟨i + 1, by go_num, by omega, A2, c2, by rw [e2.out], ?_, Fresh.app hf.out hm.out.size hA2.out, hm.out.app hf.out hm2.out⟩
            rw [e2.out, e1.out]; exact ho2.out
          case measure => simp [intOf]; omega
        · have hij : i = j := by omega
          subst hij
          rw [hfull.out] at how
          rw [hpm.out] at how ⊢
          replace how := Lib.hid how
          replace hf := Lib.hid hf
          replace hm := Lib.hid hm
          go_wp2_with fail
          go_ret
          exact ⟨A', c', rfl, how.out, hf.out, hm.out⟩
/-- where a list of bytes lies -/
structure ByAt (w : World) (s : SV) (l : List UInt8) : Prop where
  rd : RdB w s.a s.n l
  small : s.n ≤ 100000000
theorem ByAt.mod0 {w w' : World} {s : SV} {l : List UInt8} (h : ByAt w s l) (hm : Mod none_ w w') : ByAt w' s l := ⟨Rd.mod0 h.rd hm, h.small⟩
/-- the row of slices that a call of Concat is handed -/
theorem bsAt_of (w : World) (t : TypeId) (ss : List SV) (lls : List (List UInt8)) (h1 : ss.length = lls.length) (h2 : ∀ (i : Nat) (s : SV) (l : List UInt8), ss[i]? = some s → lls[i]? = some l → ByAt w s l) :
    BsAt (w.alloc (.cells (ss.map SV.v).toArray t)) (some ⟨w.heap.size, 0, none⟩) ss.length ss lls :=
  ⟨rdn w t 1 ss.length w.heap.size (ss.map SV.v).toArray (0, 0) rfl (by simp), h1, fun i s l hs hl => ⟨Rd.alloc (h2 i s l hs hl).rd _, (h2 i s l hs hl).small⟩⟩
/-- lists of bytes, each where its slice says -/
def AllAt (w : World) : List SV → List (List UInt8) → Prop
  | [], [] => True
  | s :: ss, l :: lls => ByAt w s l ∧ AllAt w ss lls
  | _, _ => False
theorem AllAt.get {w : World} : ∀ {ss : List SV} {lls : List (List UInt8)}, AllAt w ss lls → ss.length = lls.length ∧ ∀ (i : Nat) (s : SV) (l : List UInt8), ss[i]? = some s → lls[i]? = some l → ByAt w s l
  | [], [], _ => ⟨rfl, fun i s l hs _ => by simp at hs⟩
  | s :: ss, l :: lls, h => by
    obtain ⟨h1, h2⟩ := AllAt.get h.2
    refine ⟨by simp [h1], fun i s' l' hs hl => ?_⟩
    cases i with
    | zero => simp at hs hl; subst hs hl; exact h.1
    | succ i => exact h2 i s' l' (by simpa using hs) (by simpa using hl)
  | [], _ :: _, h => h.elim
  | _ :: _, [], h => h.elim
theorem bsAt_all (w : World) (t : TypeId) (ss : List SV) (lls : List (List UInt8)) (h : AllAt w ss lls) : BsAt (w.alloc (.cells (ss.map SV.v).toArray t)) (some ⟨w.heap.size, 0, none⟩) ss.length ss lls :=
  bsAt_of w t ss lls h.get.1 h.get.2
end Go.Proofs.YtdnbclhidpkpgaaGreat
/-
  order.num, order.Bytes. No condition.
-/
namespace Go.Proofs.YtdnbclhidpkpgaaGreat
set_option linter.unusedVariables false
set_option linter.unusedSimpArgs false
open Go.RowKit
theorem numB_ok (w : World) (n : Int) (h : in64 n) : Calls Tryz.prog 81 #[.int .i64 n] w (BytesPost w (nb n)) :=
  (num_ok w n h.1 h.2).mono (by
    rintro e w' ⟨A, k, c, rfl, ho, hf, hm, hk⟩
    have hl := ho.len
    subst hl
    exact ⟨A, c, rfl, ho, hf, hm⟩)
theorem onum_ok (w : World) (n : Int) (h : in64 n) : Calls Tryz.prog 83 #[.int .i64 n] w (BytesPost w (nb n)) := by
  go_enter Tryz.func83, Tryz.ntmps83
  go_wp2_with fail
  refine (numB_ok _ _ h).mono ?_
  rintro e w1 ⟨A, c, rfl, ho, hf, hm⟩
  dsimp only
  replace ho := Lib.hid ho
  replace hf := Lib.hid hf
  replace hm := Lib.hid hm
  go_wp2_with fail
  go_ret
  exact ⟨A, c, rfl, ho.out, hf.out, hm.out⟩
theorem ByAt.of_ow {w : World} {e : TypeId} {A : Option Addr} {c : Nat} {l : List UInt8} (h : OwB w e A l.length c l) (hl : l.length ≤ 100000000) : ByAt w ⟨A, l.length, c⟩ l := ⟨h.rd, hl⟩
def BPost (w : World) (ok : Bool) (l : List UInt8) (e : Ending) (w' : World) : Prop :=
  (ok = true ∧ ∃ A c, e = .returned (.tuple #[.slice A l.length c, .int .i64 0]) ∧ OwB w' 5 A l.length c l ∧ Fresh w A ∧ Mod none_ w w') ∨ (ok = false ∧ e = .returned (.tuple #[.slice none 0 0, .int .i64 1]) ∧ Mod none_ w w')
theorem in64_mk {n : Int} (h1 : -9223372036854775808 ≤ n) (h2 : n ≤ 9223372036854775807) : in64 n := ⟨h1, h2⟩
theorem nb_small (n : Int) : (nb n).length ≤ 100000000 := by have := nb_len n; omega
theorem txtB_small {s : List UInt8} (h : s.length ≤ 1000) : (txtB s).length ≤ 100000000 := by have := txtB_len s; omega
def odC (o : Od) (L : SV) : Array Value := #[.int .i64 o.c, .int .i64 o.s, .int .i64 o.k, .string (txt o.acct), .string (txt o.peer), .int .i64 o.sum, .slice L.a L.n L.c, .int .i64 o.per, .int .i64 o.hold, .string (txt o.note)]
def odS (g : Nat) (o : Od) (L : SV) (W : World) : Prop :=
  W.cell? ⟨g, 0, none⟩ = some (.int .i64 o.c) ∧ W.cell? ⟨g, 1, none⟩ = some (.int .i64 o.s) ∧ W.cell? ⟨g, 2, none⟩ = some (.int .i64 o.k) ∧ W.cell? ⟨g, 3, none⟩ = some (.string (txt o.acct)) ∧ W.cell? ⟨g, 4, none⟩ = some (.string (txt o.peer)) ∧
    W.cell? ⟨g, 5, none⟩ = some (.int .i64 o.sum) ∧ W.cell? ⟨g, 6, none⟩ = some (.slice L.a L.n L.c) ∧ W.cell? ⟨g, 7, none⟩ = some (.int .i64 o.per) ∧ W.cell? ⟨g, 8, none⟩ = some (.int .i64 o.hold) ∧ W.cell? ⟨g, 9, none⟩ = some (.string (txt o.note))
theorem odS_of {W : World} {g : Nat} {t : TypeId} {o : Od} {L : SV} (h : Blk W g t #[.int .i64 o.c, .int .i64 o.s, .int .i64 o.k, .string (txt o.acct), .string (txt o.peer), .int .i64 o.sum, .slice L.a L.n L.c, .int .i64 o.per, .int .i64 o.hold, .string (txt o.note)]) : odS g o L W :=
  ⟨h.cell_ rfl, h.cell_ rfl, h.cell_ rfl, h.cell_ rfl, h.cell_ rfl, h.cell_ rfl, h.cell_ rfl, h.cell_ rfl, h.cell_ rfl, h.cell_ rfl⟩
def headO (o : Od) : List UInt8 := nb o.c ++ (nb o.s ++ (nb o.k ++ (txtB o.acct ++ (txtB o.peer ++ (nb o.sum ++ nb (o.legs.length : Int))))))
theorem headO_len {o : Od} (h4 : o.acct.length ≤ 8) (h5 : o.peer.length ≤ 8) : (headO o).length ≤ 100 := by
  have := nb_len o.c
  have := nb_len o.s
  have := nb_len o.k
  have := nb_len o.sum
  have := nb_len (o.legs.length : Int)
  have := txtB_len o.acct
  have := txtB_len o.peer
  unfold headO
  simp only [List.length_append]
  omega
theorem orderB_head (o : Od) : orderB o = headO o ++ (o.legs.flatMap legB ++ (nb o.per ++ (nb o.hold ++ txtB o.note))) := by
  unfold orderB headO
  simp only [List.append_assoc]
set_option maxRecDepth 100000 in
set_option maxHeartbeats 8000000 in
theorem orderBytes_ok (w : World) (o : Od) (L : SV) (hO : OdM w o L) (hL : L.n ≤ 140737488355328) (hk : (Lit.int .i64 o.k).wf = true) (hz : ∀ l ∈ o.legs, (txt l.n).size ≤ maxLen) (hn : in64 o.sum ∧ ∀ l ∈ o.legs, in64 l.x) :
    Calls Tryz.prog 47 #[.agg #[.int .i64 o.c, .int .i64 o.s, .int .i64 o.k, .string (txt o.acct), .string (txt o.peer), .int .i64 o.sum, .slice L.a L.n L.c, .int .i64 o.per, .int .i64 o.hold, .string (txt o.note)]] w (BPost w (rightO o) (orderB o)) := by
  have hB := Blk.new w 30 #[.int .i64 o.c, .int .i64 o.s, .int .i64 o.k, .string (txt o.acct), .string (txt o.peer), .int .i64 o.sum, .slice L.a L.n L.c, .int .i64 o.per, .int .i64 o.hold, .string (txt o.note)]
  have hm0 := (Mod.refl none_ w).alloc (.cells #[.int .i64 o.c, .int .i64 o.s, .int .i64 o.k, .string (txt o.acct), .string (txt o.peer), .int .i64 o.sum, .slice L.a L.n L.c, .int .i64 o.per, .int .i64 o.hold, .string (txt o.note)] 30)
  have kR := Lib.hid (rightO_ok _ o L (hO.mod0 hm0) hL hk hz)
  have hrd := Lib.hid hO.rd
  have hlen := Lib.hid hO.rd.len
  replace hB := Lib.hid hB
  replace hm0 := Lib.hid hm0
  replace hz := Lib.hid hz
  replace hO := Lib.hid hO
  go_enter Tryz.func47, Tryz.ntmps47
  go_wp2_with (refine wpList_load_row rfl 30 (.tmp 1) rfl w.heap.size rfl _ _ _ _ hB.out Tryz.underlying30 rfl order_size ?_)
  with_reducible refine kR.out.mono ?_
  rintro e w1 ⟨rfl, hm1⟩
  dsimp only
  cases hr : rightO o with
  | false =>
    replace hr := Lib.hid hr
    replace hm1 := Lib.hid hm1
    go_wp2_with fail
    go_ret2
    exact .inr ⟨hr.out, rfl, hm0.out.trans hm1.out⟩
  | true =>
    have hok := rightO_okOd hr hn
    obtain ⟨⟨k1, k1'⟩, ⟨k2, k2'⟩, ⟨k3, k3'⟩, k4, k5, k6, k7, k8, ⟨k9, k9'⟩, ⟨k10, k10'⟩, k11⟩ := hok
    have hB1 := hB.out.mod hm1 (fun h => h)
    have kC := Lib.hid (fun W (h : Mod none_ w1 W) => odS_of (hB1.mod h (fun h => h)))
    have hmm := Lib.hid (hm0.out.trans hm1)
    replace hr := Lib.hid hr
    replace hm1 := Lib.hid hm1
    replace hB1 := Lib.hid hB1
    replace k6 := Lib.hid k6
    replace k8 := Lib.hid k8
    clear hB
    go_wp2_with fail
    have hM0 := Lib.hid ((Mod.refl none_ w1).drew)
    refine wp_region_held_drew (S := fun W => Mod none_ w1 W) (by kernel_rfl) hM0.out (fun hHeld => ?_)
    refine wpAnyH_take (i := 0) (v := ?_) rfl (by kernel_rfl) (by kernel_rfl) (by kernel_rfl) (fun _ _ _ h => h) (Or.inl ⟨by rfl, ?_⟩) (by assumption) ?_
    rotate_left
    · intro W hSw; (try dsimp only at hSw); go_simp; (try with_reducible rfl)
    try simp only [Act.put, List.getElem_toArray, List.getElem_cons_zero, List.getElem_cons_succ, List.setIfInBounds_toArray, List.set_cons_zero, List.set_cons_succ]
    refine wpAnyH_take (i := 1) (v := ?_) rfl (by kernel_rfl) (by kernel_rfl) (by kernel_rfl) (fun _ _ _ h => h) (Or.inl ⟨by rfl, ?_⟩) (by assumption) ?_
    rotate_left
    · intro W hSw; (try dsimp only at hSw); go_simp; (try with_reducible rfl)
    try simp only [Act.put, List.getElem_toArray, List.getElem_cons_zero, List.getElem_cons_succ, List.setIfInBounds_toArray, List.set_cons_zero, List.set_cons_succ]
    refine wpAnyH_take (i := 4) (v := ?_) rfl (by kernel_rfl) (by kernel_rfl) (by kernel_rfl) (fun _ _ _ h => h) (Or.inl ⟨by rfl, ?_⟩) (by assumption) ?_
    rotate_left
    · intro W hSw; (try dsimp only at hSw); go_simp; (try with_reducible rfl)
    try simp only [Act.put, List.getElem_toArray, List.getElem_cons_zero, List.getElem_cons_succ, List.setIfInBounds_toArray, List.set_cons_zero, List.set_cons_succ]
    refine wpAnyH_take (i := 5) (v := ?_) rfl (by kernel_rfl) (by kernel_rfl) (by kernel_rfl) (fun _ _ _ h => h) (Or.inl ⟨by rfl, ?_⟩) (by assumption) ?_
    rotate_left
    · intro W hSw; (try dsimp only at hSw); go_simp; (try with_reducible rfl)
    try simp only [Act.put, List.getElem_toArray, List.getElem_cons_zero, List.getElem_cons_succ, List.setIfInBounds_toArray, List.set_cons_zero, List.set_cons_succ]
    refine wpAnyH_take (i := 8) (v := ?_) rfl (by kernel_rfl) (by kernel_rfl) (by kernel_rfl) (fun _ _ _ h => h) (Or.inl ⟨by rfl, ?_⟩) (by assumption) ?_
    rotate_left
    · intro W hSw; (try dsimp only at hSw); go_simp; (try with_reducible rfl)
    try simp only [Act.put, List.getElem_toArray, List.getElem_cons_zero, List.getElem_cons_succ, List.setIfInBounds_toArray, List.set_cons_zero, List.set_cons_succ]
    refine wpAnyH_take (i := 11) (v := ?_) rfl (by kernel_rfl) (by kernel_rfl) (by kernel_rfl) (fun _ _ _ h => h) (Or.inl ⟨by rfl, ?_⟩) (by assumption) ?_
    rotate_left
    · intro W hSw; (try dsimp only at hSw); go_simp; (try with_reducible rfl)
    try simp only [Act.put, List.getElem_toArray, List.getElem_cons_zero, List.getElem_cons_succ, List.setIfInBounds_toArray, List.set_cons_zero, List.set_cons_succ]
    refine wpAnyH_take (i := 14) (v := ?_) rfl (by kernel_rfl) (by kernel_rfl) (by kernel_rfl) (fun _ _ _ h => h) (Or.inl ⟨by rfl, ?_⟩) (by assumption) ?_
    rotate_left
    · intro W hSw; (try dsimp only at hSw); go_simp; (try with_reducible rfl)
    try simp only [Act.put, List.getElem_toArray, List.getElem_cons_zero, List.getElem_cons_succ, List.setIfInBounds_toArray, List.set_cons_zero, List.set_cons_succ]
    refine wpAnyH_take (i := 17) (v := ?_) rfl (by kernel_rfl) (by kernel_rfl) (by kernel_rfl) (fun _ _ _ h => h) (Or.inl ⟨by rfl, ?_⟩) (by assumption) ?_
    rotate_left
    · intro W hSw; (try dsimp only at hSw); go_simp; (try with_reducible rfl)
    try simp only [Act.put, List.getElem_toArray, List.getElem_cons_zero, List.getElem_cons_succ, List.setIfInBounds_toArray, List.set_cons_zero, List.set_cons_succ]
    refine wpAnyH_take (i := 20) (v := ?_) rfl (by kernel_rfl) (by kernel_rfl) (by kernel_rfl) (fun _ _ _ h => h) (Or.inl ⟨by rfl, ?_⟩) (by assumption) ?_
    rotate_left
    · intro W hSw; (try dsimp only at hSw); go_simp; (try with_reducible rfl)
    try simp only [Act.put, List.getElem_toArray, List.getElem_cons_zero, List.getElem_cons_succ, List.setIfInBounds_toArray, List.set_cons_zero, List.set_cons_succ]
    refine wpAnyH_take (i := 2) (v := ?_) rfl (by kernel_rfl) (by kernel_rfl) (by kernel_rfl) (fun _ _ _ h => h) (Or.inl ⟨by rfl, ?_⟩) (by assumption) ?_
    rotate_left
    · intro W hSw; obtain ⟨s0, s1, s2, s3, s4, s5, s6, s7, s8, s9⟩ := kC.out W hSw; go_simp; (try with_reducible rfl)
    try simp only [Act.put, List.getElem_toArray, List.getElem_cons_zero, List.getElem_cons_succ, List.setIfInBounds_toArray, List.set_cons_zero, List.set_cons_succ]
    refine wpAnyH_take (i := 6) (v := ?_) rfl (by kernel_rfl) (by kernel_rfl) (by kernel_rfl) (fun _ _ _ h => h) (Or.inl ⟨by rfl, ?_⟩) (by assumption) ?_
    rotate_left
    · intro W hSw; obtain ⟨s0, s1, s2, s3, s4, s5, s6, s7, s8, s9⟩ := kC.out W hSw; go_simp; (try with_reducible rfl)
    try simp only [Act.put, List.getElem_toArray, List.getElem_cons_zero, List.getElem_cons_succ, List.setIfInBounds_toArray, List.set_cons_zero, List.set_cons_succ]
    refine wpAnyH_take (i := 9) (v := ?_) rfl (by kernel_rfl) (by kernel_rfl) (by kernel_rfl) (fun _ _ _ h => h) (Or.inl ⟨by rfl, ?_⟩) (by assumption) ?_
    rotate_left
    · intro W hSw; obtain ⟨s0, s1, s2, s3, s4, s5, s6, s7, s8, s9⟩ := kC.out W hSw; go_simp; (try with_reducible rfl)
    try simp only [Act.put, List.getElem_toArray, List.getElem_cons_zero, List.getElem_cons_succ, List.setIfInBounds_toArray, List.set_cons_zero, List.set_cons_succ]
    refine wpAnyH_take (i := 12) (v := ?_) rfl (by kernel_rfl) (by kernel_rfl) (by kernel_rfl) (fun _ _ _ h => h) (Or.inl ⟨by rfl, ?_⟩) (by assumption) ?_
    rotate_left
    · intro W hSw; obtain ⟨s0, s1, s2, s3, s4, s5, s6, s7, s8, s9⟩ := kC.out W hSw; go_simp; (try with_reducible rfl)
    try simp only [Act.put, List.getElem_toArray, List.getElem_cons_zero, List.getElem_cons_succ, List.setIfInBounds_toArray, List.set_cons_zero, List.set_cons_succ]
    refine wpAnyH_take (i := 15) (v := ?_) rfl (by kernel_rfl) (by kernel_rfl) (by kernel_rfl) (fun _ _ _ h => h) (Or.inl ⟨by rfl, ?_⟩) (by assumption) ?_
    rotate_left
    · intro W hSw; obtain ⟨s0, s1, s2, s3, s4, s5, s6, s7, s8, s9⟩ := kC.out W hSw; go_simp; (try with_reducible rfl)
    try simp only [Act.put, List.getElem_toArray, List.getElem_cons_zero, List.getElem_cons_succ, List.setIfInBounds_toArray, List.set_cons_zero, List.set_cons_succ]
    refine wpAnyH_take (i := 18) (v := ?_) rfl (by kernel_rfl) (by kernel_rfl) (by kernel_rfl) (fun _ _ _ h => h) (Or.inl ⟨by rfl, ?_⟩) (by assumption) ?_
    rotate_left
    · intro W hSw; obtain ⟨s0, s1, s2, s3, s4, s5, s6, s7, s8, s9⟩ := kC.out W hSw; go_simp; (try with_reducible rfl)
    try simp only [Act.put, List.getElem_toArray, List.getElem_cons_zero, List.getElem_cons_succ, List.setIfInBounds_toArray, List.set_cons_zero, List.set_cons_succ]
    refine wpAnyH_take (i := 21) (v := ?_) rfl (by kernel_rfl) (by kernel_rfl) (by kernel_rfl) (fun _ _ _ h => h) (Or.inl ⟨by rfl, ?_⟩) (by assumption) ?_
    rotate_left
    · intro W hSw; obtain ⟨s0, s1, s2, s3, s4, s5, s6, s7, s8, s9⟩ := kC.out W hSw; go_simp; (try with_reducible rfl)
    try simp only [Act.put, List.getElem_toArray, List.getElem_cons_zero, List.getElem_cons_succ, List.setIfInBounds_toArray, List.set_cons_zero, List.set_cons_succ]
    refine wpAnyH_take (i := 22) (v := ?_) rfl (by kernel_rfl) (by kernel_rfl) (by kernel_rfl) (fun _ _ _ h => h) (Or.inl ⟨by rfl, ?_⟩) (by assumption) ?_
    rotate_left
    · intro W hSw; (try dsimp only at hSw); go_simp; (try with_reducible rfl)
    try simp only [Act.put, List.getElem_toArray, List.getElem_cons_zero, List.getElem_cons_succ, List.setIfInBounds_toArray, List.set_cons_zero, List.set_cons_succ]
    refine wpAnyH_ready (rs := [3]) (by kernel_rfl) (by simp) ?_
    refine AllReadyH.cons rfl (fun K hK => ?_) AllReadyH.nil
    go_simp
    (with_reducible refine (onum_ok _ o.c (in64_mk (by omega) (by omega))).mono ?_); rintro e3 w3 ⟨A3, c3, rfl, ho3, hf3, hm3⟩; dsimp only
    have hM3 := Lib.hid (hM0.out.trans hm3)
    have z3 := Lib.hid (ByAt.of_ow ho3 (nb_small _))
    clear hm3 ho3 hf3
    go_wp2_with fail
    refine hK.out _ _ (hM3.out) (fun hHeld => ?_)
    clear hK K
    try simp only [Act.put, List.getElem_toArray, List.getElem_cons_zero, List.getElem_cons_succ, List.setIfInBounds_toArray, List.set_cons_zero, List.set_cons_succ]
    refine wpAnyH_ready (rs := [7]) (by kernel_rfl) (by simp) ?_
    refine AllReadyH.cons rfl (fun K hK => ?_) AllReadyH.nil
    go_simp
    (with_reducible refine (onum_ok _ o.s (in64_mk (by omega) (by omega))).mono ?_); rintro e7 w7 ⟨A7, c7, rfl, ho7, hf7, hm7⟩; dsimp only
    have hM7 := Lib.hid (hM3.out.trans hm7)
    replace z3 := Lib.hid (z3.out.mod0 hm7)
    have z7 := Lib.hid (ByAt.of_ow ho7 (nb_small _))
    clear hm7 ho7 hf7
    go_wp2_with fail
    refine hK.out _ _ (hM7.out) (fun hHeld => ?_)
    clear hK K
    try simp only [Act.put, List.getElem_toArray, List.getElem_cons_zero, List.getElem_cons_succ, List.setIfInBounds_toArray, List.set_cons_zero, List.set_cons_succ]
    refine wpAnyH_ready (rs := [10]) (by kernel_rfl) (by simp) ?_
    refine AllReadyH.cons rfl (fun K hK => ?_) AllReadyH.nil
    go_simp
    (with_reducible refine (onum_ok _ o.k (in64_mk (by omega) (by omega))).mono ?_); rintro e10 w10 ⟨A10, c10, rfl, ho10, hf10, hm10⟩; dsimp only
    have hM10 := Lib.hid (hM7.out.trans hm10)
    replace z3 := Lib.hid (z3.out.mod0 hm10)
    replace z7 := Lib.hid (z7.out.mod0 hm10)
    have z10 := Lib.hid (ByAt.of_ow ho10 (nb_small _))
    clear hm10 ho10 hf10
    go_wp2_with fail
    refine hK.out _ _ (hM10.out) (fun hHeld => ?_)
    clear hK K
    try simp only [Act.put, List.getElem_toArray, List.getElem_cons_zero, List.getElem_cons_succ, List.setIfInBounds_toArray, List.set_cons_zero, List.set_cons_succ]
    refine wpAnyH_ready (rs := [13]) (by kernel_rfl) (by simp) ?_
    refine AllReadyH.cons rfl (fun K hK => ?_) AllReadyH.nil
    go_simp
    (with_reducible refine (text_ok _ _ (by omega)).mono ?_); rintro e13 w13 ⟨A13, c13, rfl, ho13, hf13, hm13⟩; dsimp only
    have hM13 := Lib.hid (hM10.out.trans hm13)
    replace z3 := Lib.hid (z3.out.mod0 hm13)
    replace z7 := Lib.hid (z7.out.mod0 hm13)
    replace z10 := Lib.hid (z10.out.mod0 hm13)
    have z13 := Lib.hid (ByAt.of_ow ho13 (txtB_small (by omega)))
    clear hm13 ho13 hf13
    go_wp2_with fail
    refine hK.out _ _ (hM13.out) (fun hHeld => ?_)
    clear hK K
    try simp only [Act.put, List.getElem_toArray, List.getElem_cons_zero, List.getElem_cons_succ, List.setIfInBounds_toArray, List.set_cons_zero, List.set_cons_succ]
    refine wpAnyH_ready (rs := [16]) (by kernel_rfl) (by simp) ?_
    refine AllReadyH.cons rfl (fun K hK => ?_) AllReadyH.nil
    go_simp
    (with_reducible refine (text_ok _ _ (by omega)).mono ?_); rintro e16 w16 ⟨A16, c16, rfl, ho16, hf16, hm16⟩; dsimp only
    have hM16 := Lib.hid (hM13.out.trans hm16)
    replace z3 := Lib.hid (z3.out.mod0 hm16)
    replace z7 := Lib.hid (z7.out.mod0 hm16)
    replace z10 := Lib.hid (z10.out.mod0 hm16)
    replace z13 := Lib.hid (z13.out.mod0 hm16)
    have z16 := Lib.hid (ByAt.of_ow ho16 (txtB_small (by omega)))
    clear hm16 ho16 hf16
    go_wp2_with fail
    refine hK.out _ _ (hM16.out) (fun hHeld => ?_)
    clear hK K
    try simp only [Act.put, List.getElem_toArray, List.getElem_cons_zero, List.getElem_cons_succ, List.setIfInBounds_toArray, List.set_cons_zero, List.set_cons_succ]
    refine wpAnyH_ready (rs := [19]) (by kernel_rfl) (by simp) ?_
    refine AllReadyH.cons rfl (fun K hK => ?_) AllReadyH.nil
    go_simp
    (with_reducible refine (numB_ok _ _ k6.out).mono ?_); rintro e19 w19 ⟨A19, c19, rfl, ho19, hf19, hm19⟩; dsimp only
    have hM19 := Lib.hid (hM16.out.trans hm19)
    replace z3 := Lib.hid (z3.out.mod0 hm19)
    replace z7 := Lib.hid (z7.out.mod0 hm19)
    replace z10 := Lib.hid (z10.out.mod0 hm19)
    replace z13 := Lib.hid (z13.out.mod0 hm19)
    replace z16 := Lib.hid (z16.out.mod0 hm19)
    have z19 := Lib.hid (ByAt.of_ow ho19 (nb_small _))
    clear hm19 ho19 hf19
    go_wp2_with fail
    refine hK.out _ _ (hM19.out) (fun hHeld => ?_)
    clear hK K
    try simp only [Act.put, List.getElem_toArray, List.getElem_cons_zero, List.getElem_cons_succ, List.setIfInBounds_toArray, List.set_cons_zero, List.set_cons_succ]
    refine wpAnyH_ready (rs := [23]) (by kernel_rfl) (by simp) ?_
    refine AllReadyH.cons rfl (fun K hK => ?_) AllReadyH.nil
    go_simp
    (with_reducible refine (onum_ok _ (L.n : Int) (in64_mk (by omega) (by omega))).mono ?_); rintro e23 w23 ⟨A23, c23, rfl, ho23, hf23, hm23⟩; dsimp only
    have hM23 := Lib.hid (hM19.out.trans hm23)
    replace z3 := Lib.hid (z3.out.mod0 hm23)
    replace z7 := Lib.hid (z7.out.mod0 hm23)
    replace z10 := Lib.hid (z10.out.mod0 hm23)
    replace z13 := Lib.hid (z13.out.mod0 hm23)
    replace z16 := Lib.hid (z16.out.mod0 hm23)
    replace z19 := Lib.hid (z19.out.mod0 hm23)
    have z23 := Lib.hid (ByAt.of_ow ho23 (nb_small _))
    clear hm23 ho23 hf23
    go_wp2_with fail
    refine hK.out _ _ (hM23.out) (fun hHeld => ?_)
    clear hK K
    try simp only [Act.put, List.getElem_toArray, List.getElem_cons_zero, List.getElem_cons_succ, List.setIfInBounds_toArray, List.set_cons_zero, List.set_cons_succ]
    have hbs : Hid (BsAt (w23.alloc (.cells #[.slice A3 (nb o.c).length c3, .slice A7 (nb o.s).length c7, .slice A10 (nb o.k).length c10, .slice A13 (txtB o.acct).length c13, .slice A16 (txtB o.peer).length c16, .slice A19 (nb o.sum).length c19, .slice A23 (nb (L.n : Int)).length c23] 22)) (some ⟨w23.heap.size, 0, none⟩) 7 [⟨A3, (nb o.c).length, c3⟩, ⟨A7, (nb o.s).length, c7⟩, ⟨A10, (nb o.k).length, c10⟩, ⟨A13, (txtB o.acct).length, c13⟩, ⟨A16, (txtB o.peer).length, c16⟩, ⟨A19, (nb o.sum).length, c19⟩, ⟨A23, (nb (L.n : Int)).length, c23⟩] [nb o.c, nb o.s, nb o.k, txtB o.acct, txtB o.peer, nb o.sum, nb (L.n : Int)]) := Lib.hid (bsAt_all w23 22 [⟨A3, (nb o.c).length, c3⟩, ⟨A7, (nb o.s).length, c7⟩, ⟨A10, (nb o.k).length, c10⟩, ⟨A13, (txtB o.acct).length, c13⟩, ⟨A16, (txtB o.peer).length, c16⟩, ⟨A19, (nb o.sum).length, c19⟩, ⟨A23, (nb (L.n : Int)).length, c23⟩] [nb o.c, nb o.s, nb o.k, txtB o.acct, txtB o.peer, nb o.sum, nb (L.n : Int)] ⟨z3.out, z7.out, z10.out, z13.out, z16.out, z19.out, z23.out, trivial⟩)
    refine wpAnyH_ready (rs := [24]) (by kernel_rfl) (by simp) ?_
    refine AllReadyH.cons rfl (fun K hK => ?_) AllReadyH.nil
    go_simp
    refine hK.out _ _ (hM23.out.alloc _) (fun hHeld => ?_)
    clear hK K
    try simp only [Act.put, List.getElem_toArray, List.getElem_cons_zero, List.getElem_cons_succ, List.setIfInBounds_toArray, List.set_cons_zero, List.set_cons_succ]
    have hfl : [nb o.c, nb o.s, nb o.k, txtB o.acct, txtB o.peer, nb o.sum, nb (L.n : Int)].flatten = headO o := by rw [← hlen.out]; simp [headO]
    have kc := concatB_ok _ _ 7 7 _ _ hbs.out (by omega)
    rw [hfl] at kc
    refine wpAnyH_ready (rs := [25]) (by kernel_rfl) (by simp) ?_
    refine AllReadyH.cons rfl (fun K hK => ?_) AllReadyH.nil
    go_simp
    (with_reducible refine kc.mono ?_); rintro e25 w25 ⟨A25, c25, rfl, ho25, hf25, hm25⟩; dsimp only
    have hM25 := Lib.hid ((hM23.out.alloc _).trans hm25)
    have z25 := Lib.hid (ByAt.of_ow ho25 (by have := headO_len k4 k5; omega))
    clear hm25 ho25 hf25 hbs kc hfl z3 z7 z10 z13 z16 z19 z23
    go_wp2_with fail
    refine hK.out _ _ (hM25.out) (fun hHeld => ?_)
    clear hK K
    try simp only [Act.put, List.getElem_toArray, List.getElem_cons_zero, List.getElem_cons_succ, List.setIfInBounds_toArray, List.set_cons_zero, List.set_cons_succ]
    refine wpAnyH_take (i := 26) (v := ?_) rfl (by kernel_rfl) (by kernel_rfl) (by kernel_rfl) (fun _ _ _ h => h) (Or.inl ⟨by rfl, ?_⟩) (by assumption) ?_
    rotate_left
    · intro W hSw; (try dsimp only at hSw); go_simp; (try with_reducible rfl)
    try simp only [Act.put, List.getElem_toArray, List.getElem_cons_zero, List.getElem_cons_succ, List.setIfInBounds_toArray, List.set_cons_zero, List.set_cons_succ]
    refine wpAnyH_done (by kernel_rfl) ?_ _
    clear hHeld hM0 hM3 hM7 hM10 hM13 hM16 hM19 hM23
    obtain ⟨s0, s1, s2, s3, s4, s5, s6, s7, s8, s9⟩ := kC.out w25 hM25.out
    have hll : (headO o).length ≤ 100 := headO_len k4 k5
    generalize hn25 : (headO o).length = n25 at *
    replace hn25 := Lib.hid hn25
    go_wp2_with fail
    clear s0 s1 s2 s3 s4 s5 s6 s7 s8 s9
    go_loopw [4, 39] (fun v x wr => ∃ j : Nat, x = .int .i64 j ∧ j ≤ L.n ∧ ∃ A n c, v = .slice A n c ∧ n ≤ 100 + j * 30 ∧ ByAt wr ⟨A, n, c⟩ (headO o ++ (o.legs.take j).flatMap legB) ∧ Mod none_ w1 wr) (fun _ x _ => L.n - (intOf x).toNat)
    case atStart => exact ⟨0, rfl, by omega, A25, n25, c25, rfl, by omega, by simpa using z25.out, hM25.out⟩
    case round =>
      obtain ⟨j, rfl, hj, A, n, c, rfl, hnj, hz4, hM⟩ := hrel
      by_cases hlt : j < L.n
      · obtain ⟨b, p, l, hLa, hlm, hlj, x1, x2⟩ := rdl_get ((hrd.out.mod0 hmm.out).mod0 hM) hlt
        obtain ⟨hl8, hlx⟩ := k8.out l hlm
        rw [hLa]
        replace hz4 := Lib.hid hz4
        replace hM := Lib.hid hM
        replace hlm := Lib.hid hlm
        replace hlj := Lib.hid hlj
        replace hlx := Lib.hid hlx
        go_wp2_with fail
        have hB6 := Blk.new wr 117 #[.string (txt l.n), .int .i64 l.x]
        have kC6 := Lib.hid (fun W (h : Mod none_ (wr.alloc (.cells #[.string (txt l.n), .int .i64 l.x] 117)) W) => (⟨(hB6.mod h (fun h => h)).cell_ rfl, (hB6.mod h (fun h => h)).cell_ rfl⟩ : W.cell? ⟨wr.heap.size, 0, none⟩ = some (.string (txt l.n)) ∧ W.cell? ⟨wr.heap.size, 1, none⟩ = some (.int .i64 l.x)))
        have hMl := Lib.hid (hM.out.alloc (.cells #[.string (txt l.n), .int .i64 l.x] 117))
        have hM0 := Lib.hid ((Mod.refl none_ (wr.alloc (.cells #[.string (txt l.n), .int .i64 l.x] 117))).drew)
        have z0 := Lib.hid (hz4.out.mod0 (((Mod.refl none_ wr).alloc (.cells #[.string (txt l.n), .int .i64 l.x] 117)).drew))
        clear hB6
        refine wp_region_held_drew (S := fun W => Mod none_ (wr.alloc (.cells #[.string (txt l.n), .int .i64 l.x] 117)) W) (by kernel_rfl) hM0.out (fun hHeld => ?_)
        refine wpAnyH_take (i := 0) (v := ?_) rfl (by kernel_rfl) (by kernel_rfl) (by kernel_rfl) (fun _ _ _ h => h) (Or.inl ⟨by rfl, ?_⟩) (by assumption) ?_
        rotate_left
        · intro W hSw; (try dsimp only at hSw); go_simp; (try with_reducible rfl)
        try simp only [Act.put, List.getElem_toArray, List.getElem_cons_zero, List.getElem_cons_succ, List.setIfInBounds_toArray, List.set_cons_zero, List.set_cons_succ]
        refine wpAnyH_take (i := 1) (v := ?_) rfl (by kernel_rfl) (by kernel_rfl) (by kernel_rfl) (fun _ _ _ h => h) (Or.inl ⟨by rfl, ?_⟩) (by assumption) ?_
        rotate_left
        · intro W hSw; (try dsimp only at hSw); go_simp; (try with_reducible rfl)
        try simp only [Act.put, List.getElem_toArray, List.getElem_cons_zero, List.getElem_cons_succ, List.setIfInBounds_toArray, List.set_cons_zero, List.set_cons_succ]
        refine wpAnyH_take (i := 4) (v := ?_) rfl (by kernel_rfl) (by kernel_rfl) (by kernel_rfl) (fun _ _ _ h => h) (Or.inl ⟨by rfl, ?_⟩) (by assumption) ?_
        rotate_left
        · intro W hSw; (try dsimp only at hSw); go_simp; (try with_reducible rfl)
        try simp only [Act.put, List.getElem_toArray, List.getElem_cons_zero, List.getElem_cons_succ, List.setIfInBounds_toArray, List.set_cons_zero, List.set_cons_succ]
        refine wpAnyH_take (i := 2) (v := ?_) rfl (by kernel_rfl) (by kernel_rfl) (by kernel_rfl) (fun _ _ _ h => h) (Or.inl ⟨by rfl, ?_⟩) (by assumption) ?_
        rotate_left
        · intro W hSw; obtain ⟨s0, s1⟩ := kC6.out W hSw; go_simp; (try with_reducible rfl)
        try simp only [Act.put, List.getElem_toArray, List.getElem_cons_zero, List.getElem_cons_succ, List.setIfInBounds_toArray, List.set_cons_zero, List.set_cons_succ]
        refine wpAnyH_take (i := 5) (v := ?_) rfl (by kernel_rfl) (by kernel_rfl) (by kernel_rfl) (fun _ _ _ h => h) (Or.inl ⟨by rfl, ?_⟩) (by assumption) ?_
        rotate_left
        · intro W hSw; obtain ⟨s0, s1⟩ := kC6.out W hSw; go_simp; (try with_reducible rfl)
        try simp only [Act.put, List.getElem_toArray, List.getElem_cons_zero, List.getElem_cons_succ, List.setIfInBounds_toArray, List.set_cons_zero, List.set_cons_succ]
        refine wpAnyH_ready (rs := [3]) (by kernel_rfl) (by simp) ?_
        refine AllReadyH.cons rfl (fun K hK => ?_) AllReadyH.nil
        go_simp
        (with_reducible refine (text_ok _ l.n (by omega)).mono ?_); rintro e3 w3 ⟨A3, c3, rfl, ho3, hf3, hm3⟩; dsimp only
        have hM3 := Lib.hid (hM0.out.trans hm3)
        replace z0 := Lib.hid (z0.out.mod0 hm3)
        have z3 := Lib.hid (ByAt.of_ow ho3 (txtB_small (by omega)))
        clear hm3 ho3 hf3
        go_wp2_with fail
        refine hK.out _ _ (hM3.out) (fun hHeld => ?_)
        clear hK K
        try simp only [Act.put, List.getElem_toArray, List.getElem_cons_zero, List.getElem_cons_succ, List.setIfInBounds_toArray, List.set_cons_zero, List.set_cons_succ]
        refine wpAnyH_ready (rs := [6]) (by kernel_rfl) (by simp) ?_
        refine AllReadyH.cons rfl (fun K hK => ?_) AllReadyH.nil
        go_simp
        (with_reducible refine (numB_ok _ l.x hlx.out).mono ?_); rintro e6 w6 ⟨A6, c6, rfl, ho6, hf6, hm6⟩; dsimp only
        have hM6 := Lib.hid (hM3.out.trans hm6)
        replace z0 := Lib.hid (z0.out.mod0 hm6)
        replace z3 := Lib.hid (z3.out.mod0 hm6)
        have z6 := Lib.hid (ByAt.of_ow ho6 (nb_small _))
        clear hm6 ho6 hf6
        go_wp2_with fail
        refine hK.out _ _ (hM6.out) (fun hHeld => ?_)
        clear hK K
        try simp only [Act.put, List.getElem_toArray, List.getElem_cons_zero, List.getElem_cons_succ, List.setIfInBounds_toArray, List.set_cons_zero, List.set_cons_succ]
        have hbs : Hid (BsAt (w6.alloc (.cells #[.slice A n c, .slice A3 (txtB l.n).length c3, .slice A6 (nb l.x).length c6] 22)) (some ⟨w6.heap.size, 0, none⟩) 3 [⟨A, n, c⟩, ⟨A3, (txtB l.n).length, c3⟩, ⟨A6, (nb l.x).length, c6⟩] [headO o ++ (o.legs.take j).flatMap legB, txtB l.n, nb l.x]) :=
          Lib.hid (bsAt_all w6 22 [⟨A, n, c⟩, ⟨A3, (txtB l.n).length, c3⟩, ⟨A6, (nb l.x).length, c6⟩] [headO o ++ (o.legs.take j).flatMap legB, txtB l.n, nb l.x] ⟨z0.out, z3.out, z6.out, trivial⟩)
        refine wpAnyH_ready (rs := [7]) (by kernel_rfl) (by simp) ?_
        refine AllReadyH.cons rfl (fun K hK => ?_) AllReadyH.nil
        go_simp
        refine hK.out _ _ (hM6.out.alloc _) (fun hHeld => ?_)
        clear hK K
        try simp only [Act.put, List.getElem_toArray, List.getElem_cons_zero, List.getElem_cons_succ, List.setIfInBounds_toArray, List.set_cons_zero, List.set_cons_succ]
        have hfl : [headO o ++ (o.legs.take j).flatMap legB, txtB l.n, nb l.x].flatten = headO o ++ (o.legs.take (j + 1)).flatMap legB := by
          rw [List.take_add_one, hlj.out]
          simp [legB]
        have kc := concatB_ok _ _ 3 3 _ _ hbs.out (by omega)
        rw [hfl] at kc
        have hle : (headO o ++ (o.legs.take (j + 1)).flatMap legB).length ≤ 100 + (j + 1) * 30 := by
          rw [← hfl]
          have h1 := z0.out.rd.len
          have h2 := txtB_len l.n
          have h3 := nb_len l.x
          dsimp only at h1
          simp only [List.flatten_cons, List.flatten_nil, List.length_append, List.length_nil] at h1 ⊢
          omega
        have hj6 : j + 1 ≤ 6 := by have := hlen.out; omega
        obtain ⟨l8, hl8⟩ : ∃ l8, l8 = headO o ++ (o.legs.take (j + 1)).flatMap legB := ⟨_, rfl⟩
        rw [← hl8] at kc hle
        replace hl8 := Lib.hid hl8
        refine wpAnyH_ready (rs := [8]) (by kernel_rfl) (by simp) ?_
        refine AllReadyH.cons rfl (fun K hK => ?_) AllReadyH.nil
        go_simp
        (with_reducible refine kc.mono ?_); rintro e8 w8 ⟨A8, c8, rfl, ho8, hf8, hm8⟩; dsimp only
        have hM8 := Lib.hid ((hM6.out.alloc _).trans hm8)
        have z8 := Lib.hid (ByAt.of_ow ho8 (by omega))
        clear hm8 ho8 hf8 hbs kc hfl z0 z3 z6
        go_wp2_with fail
        refine hK.out _ _ (hM8.out) (fun hHeld => ?_)
        clear hK K
        try simp only [Act.put, List.getElem_toArray, List.getElem_cons_zero, List.getElem_cons_succ, List.setIfInBounds_toArray, List.set_cons_zero, List.set_cons_succ]
        refine wpAnyH_take (i := 9) (v := ?_) rfl (by kernel_rfl) (by kernel_rfl) (by kernel_rfl) (fun _ _ _ h => h) (Or.inl ⟨by rfl, ?_⟩) (by assumption) ?_
        rotate_left
        · intro W hSw; (try dsimp only at hSw); go_simp; (try with_reducible rfl)
        try simp only [Act.put, List.getElem_toArray, List.getElem_cons_zero, List.getElem_cons_succ, List.setIfInBounds_toArray, List.set_cons_zero, List.set_cons_succ]
        refine wpAnyH_done (by kernel_rfl) ?_ _
        clear hHeld hM0 hM3 hM6
        go_wp2_with fail
        go_roundw
        case rel => exact ⟨j + 1, by go_num, by omega, A8, l8.length, c8, rfl, hle, by rw [← hl8.out]; exact z8.out, hMl.out.trans hM8.out⟩
        case measure => simp [intOf]; omega
      · have hjl : j = L.n := by omega
        subst hjl
        rw [List.take_of_length_le (by have := hlen.out; omega)] at hz4
        replace hz4 := Lib.hid hz4
        replace hM := Lib.hid hM
        have hM0 := Lib.hid (hM.out.drew)
        have z0 := Lib.hid (hz4.out.mod0 (Mod.refl none_ wr).drew)
        go_wp2_with fail
        refine wp_region_held_drew (S := fun W => Mod none_ w1 W) (by kernel_rfl) hM0.out (fun hHeld => ?_)
        refine wpAnyH_take (i := 0) (v := ?_) rfl (by kernel_rfl) (by kernel_rfl) (by kernel_rfl) (fun _ _ _ h => h) (Or.inl ⟨by rfl, ?_⟩) (by assumption) ?_
        rotate_left
        · intro W hSw; (try dsimp only at hSw); go_simp; (try with_reducible rfl)
        try simp only [Act.put, List.getElem_toArray, List.getElem_cons_zero, List.getElem_cons_succ, List.setIfInBounds_toArray, List.set_cons_zero, List.set_cons_succ]
        refine wpAnyH_take (i := 1) (v := ?_) rfl (by kernel_rfl) (by kernel_rfl) (by kernel_rfl) (fun _ _ _ h => h) (Or.inl ⟨by rfl, ?_⟩) (by assumption) ?_
        rotate_left
        · intro W hSw; (try dsimp only at hSw); go_simp; (try with_reducible rfl)
        try simp only [Act.put, List.getElem_toArray, List.getElem_cons_zero, List.getElem_cons_succ, List.setIfInBounds_toArray, List.set_cons_zero, List.set_cons_succ]
        refine wpAnyH_take (i := 4) (v := ?_) rfl (by kernel_rfl) (by kernel_rfl) (by kernel_rfl) (fun _ _ _ h => h) (Or.inl ⟨by rfl, ?_⟩) (by assumption) ?_
        rotate_left
        · intro W hSw; (try dsimp only at hSw); go_simp; (try with_reducible rfl)
        try simp only [Act.put, List.getElem_toArray, List.getElem_cons_zero, List.getElem_cons_succ, List.setIfInBounds_toArray, List.set_cons_zero, List.set_cons_succ]
        refine wpAnyH_take (i := 7) (v := ?_) rfl (by kernel_rfl) (by kernel_rfl) (by kernel_rfl) (fun _ _ _ h => h) (Or.inl ⟨by rfl, ?_⟩) (by assumption) ?_
        rotate_left
        · intro W hSw; (try dsimp only at hSw); go_simp; (try with_reducible rfl)
        try simp only [Act.put, List.getElem_toArray, List.getElem_cons_zero, List.getElem_cons_succ, List.setIfInBounds_toArray, List.set_cons_zero, List.set_cons_succ]
        refine wpAnyH_take (i := 2) (v := ?_) rfl (by kernel_rfl) (by kernel_rfl) (by kernel_rfl) (fun _ _ _ h => h) (Or.inl ⟨by rfl, ?_⟩) (by assumption) ?_
        rotate_left
        · intro W hSw; obtain ⟨s0, s1, s2, s3, s4, s5, s6, s7, s8, s9⟩ := kC.out W hSw; go_simp; (try with_reducible rfl)
        try simp only [Act.put, List.getElem_toArray, List.getElem_cons_zero, List.getElem_cons_succ, List.setIfInBounds_toArray, List.set_cons_zero, List.set_cons_succ]
        refine wpAnyH_take (i := 5) (v := ?_) rfl (by kernel_rfl) (by kernel_rfl) (by kernel_rfl) (fun _ _ _ h => h) (Or.inl ⟨by rfl, ?_⟩) (by assumption) ?_
        rotate_left
        · intro W hSw; obtain ⟨s0, s1, s2, s3, s4, s5, s6, s7, s8, s9⟩ := kC.out W hSw; go_simp; (try with_reducible rfl)
        try simp only [Act.put, List.getElem_toArray, List.getElem_cons_zero, List.getElem_cons_succ, List.setIfInBounds_toArray, List.set_cons_zero, List.set_cons_succ]
        refine wpAnyH_take (i := 8) (v := ?_) rfl (by kernel_rfl) (by kernel_rfl) (by kernel_rfl) (fun _ _ _ h => h) (Or.inl ⟨by rfl, ?_⟩) (by assumption) ?_
        rotate_left
        · intro W hSw; obtain ⟨s0, s1, s2, s3, s4, s5, s6, s7, s8, s9⟩ := kC.out W hSw; go_simp; (try with_reducible rfl)
        try simp only [Act.put, List.getElem_toArray, List.getElem_cons_zero, List.getElem_cons_succ, List.setIfInBounds_toArray, List.set_cons_zero, List.set_cons_succ]
        refine wpAnyH_ready (rs := [3]) (by kernel_rfl) (by simp) ?_
        refine AllReadyH.cons rfl (fun K hK => ?_) AllReadyH.nil
        go_simp
        (with_reducible refine (onum_ok _ o.per (in64_mk (by omega) (by omega))).mono ?_); rintro e3 w3 ⟨A3, c3, rfl, ho3, hf3, hm3⟩; dsimp only
        have hM3 := Lib.hid (hM0.out.trans hm3)
        replace z0 := Lib.hid (z0.out.mod0 hm3)
        have z3 := Lib.hid (ByAt.of_ow ho3 (nb_small _))
        clear hm3 ho3 hf3
        go_wp2_with fail
        refine hK.out _ _ (hM3.out) (fun hHeld => ?_)
        clear hK K
        try simp only [Act.put, List.getElem_toArray, List.getElem_cons_zero, List.getElem_cons_succ, List.setIfInBounds_toArray, List.set_cons_zero, List.set_cons_succ]
        refine wpAnyH_ready (rs := [6]) (by kernel_rfl) (by simp) ?_
        refine AllReadyH.cons rfl (fun K hK => ?_) AllReadyH.nil
        go_simp
        (with_reducible refine (onum_ok _ o.hold (in64_mk (by omega) (by omega))).mono ?_); rintro e6 w6 ⟨A6, c6, rfl, ho6, hf6, hm6⟩; dsimp only
        have hM6 := Lib.hid (hM3.out.trans hm6)
        replace z0 := Lib.hid (z0.out.mod0 hm6)
        replace z3 := Lib.hid (z3.out.mod0 hm6)
        have z6 := Lib.hid (ByAt.of_ow ho6 (nb_small _))
        clear hm6 ho6 hf6
        go_wp2_with fail
        refine hK.out _ _ (hM6.out) (fun hHeld => ?_)
        clear hK K
        try simp only [Act.put, List.getElem_toArray, List.getElem_cons_zero, List.getElem_cons_succ, List.setIfInBounds_toArray, List.set_cons_zero, List.set_cons_succ]
        refine wpAnyH_ready (rs := [9]) (by kernel_rfl) (by simp) ?_
        refine AllReadyH.cons rfl (fun K hK => ?_) AllReadyH.nil
        go_simp
        (with_reducible refine (text_ok _ o.note (by omega)).mono ?_); rintro e9 w9 ⟨A9, c9, rfl, ho9, hf9, hm9⟩; dsimp only
        have hM9 := Lib.hid (hM6.out.trans hm9)
        replace z0 := Lib.hid (z0.out.mod0 hm9)
        replace z3 := Lib.hid (z3.out.mod0 hm9)
        replace z6 := Lib.hid (z6.out.mod0 hm9)
        have z9 := Lib.hid (ByAt.of_ow ho9 (txtB_small (by omega)))
        clear hm9 ho9 hf9
        go_wp2_with fail
        refine hK.out _ _ (hM9.out) (fun hHeld => ?_)
        clear hK K
        try simp only [Act.put, List.getElem_toArray, List.getElem_cons_zero, List.getElem_cons_succ, List.setIfInBounds_toArray, List.set_cons_zero, List.set_cons_succ]
        have hbs : Hid (BsAt (w9.alloc (.cells #[.slice A n c, .slice A3 (nb o.per).length c3, .slice A6 (nb o.hold).length c6, .slice A9 (txtB o.note).length c9] 22)) (some ⟨w9.heap.size, 0, none⟩) 4 [⟨A, n, c⟩, ⟨A3, (nb o.per).length, c3⟩, ⟨A6, (nb o.hold).length, c6⟩, ⟨A9, (txtB o.note).length, c9⟩] [headO o ++ o.legs.flatMap legB, nb o.per, nb o.hold, txtB o.note]) :=
          Lib.hid (bsAt_all w9 22 [⟨A, n, c⟩, ⟨A3, (nb o.per).length, c3⟩, ⟨A6, (nb o.hold).length, c6⟩, ⟨A9, (txtB o.note).length, c9⟩] [headO o ++ o.legs.flatMap legB, nb o.per, nb o.hold, txtB o.note] ⟨z0.out, z3.out, z6.out, z9.out, trivial⟩)
        refine wpAnyH_ready (rs := [10]) (by kernel_rfl) (by simp) ?_
        refine AllReadyH.cons rfl (fun K hK => ?_) AllReadyH.nil
        go_simp
        refine hK.out _ _ (hM9.out.alloc _) (fun hHeld => ?_)
        clear hK K
        try simp only [Act.put, List.getElem_toArray, List.getElem_cons_zero, List.getElem_cons_succ, List.setIfInBounds_toArray, List.set_cons_zero, List.set_cons_succ]
        have hfl : [headO o ++ o.legs.flatMap legB, nb o.per, nb o.hold, txtB o.note].flatten = orderB o := by
          rw [orderB_head]
          simp
        have kc := concatB_ok _ _ 4 4 _ _ hbs.out (by omega)
        rw [hfl] at kc
        refine wpAnyH_ready (rs := [11]) (by kernel_rfl) (by simp) ?_
        refine AllReadyH.cons rfl (fun K hK => ?_) AllReadyH.nil
        go_simp
        (with_reducible refine kc.mono ?_); rintro e11 w11 ⟨A11, c11, rfl, ho11, hf11, hm11⟩; dsimp only
        have hM11 := Lib.hid ((hM9.out.alloc _).trans hm11)
        have hf := Lib.hid (hf11.later (hmm.out.trans (hM9.out.alloc _)).size)
        replace ho11 := Lib.hid ho11
        clear hm11 hf11 hbs kc hfl z0 z3 z6 z9
        go_wp2_with fail
        refine hK.out _ _ (hM11.out) (fun hHeld => ?_)
        clear hK K
        try simp only [Act.put, List.getElem_toArray, List.getElem_cons_zero, List.getElem_cons_succ, List.setIfInBounds_toArray, List.set_cons_zero, List.set_cons_succ]
        refine wpAnyH_take (i := 12) (v := ?_) rfl (by kernel_rfl) (by kernel_rfl) (by kernel_rfl) (fun _ _ _ h => h) (Or.inl ⟨by rfl, ?_⟩) (by assumption) ?_
        rotate_left
        · intro W hSw; (try dsimp only at hSw); go_simp; (try with_reducible rfl)
        try simp only [Act.put, List.getElem_toArray, List.getElem_cons_zero, List.getElem_cons_succ, List.setIfInBounds_toArray, List.set_cons_zero, List.set_cons_succ]
        refine wpAnyH_take (i := 13) (v := ?_) rfl (by kernel_rfl) (by kernel_rfl) (by kernel_rfl) (fun _ _ _ h => h) (Or.inl ⟨by rfl, ?_⟩) (by assumption) ?_
        rotate_left
        · intro W hSw; (try dsimp only at hSw); go_simp; (try with_reducible rfl)
        try simp only [Act.put, List.getElem_toArray, List.getElem_cons_zero, List.getElem_cons_succ, List.setIfInBounds_toArray, List.set_cons_zero, List.set_cons_succ]
        refine wpAnyH_done (by kernel_rfl) ?_ _
        clear hHeld hM0 hM3 hM6 hM9
        generalize hlo : orderB o = lo at *
        replace hlo := Lib.hid hlo
        go_wp2_with fail
        go_ret2
        exact .inl ⟨hr.out, A11, c11, rfl, ho11.out, hf.out, hmm.out.trans hM11.out⟩
end Go.Proofs.YtdnbclhidpkpgaaGreat
/-
  The small readers: order.small, order.name, log.small, log.inst, post.small; the rows of numbers log.nums, post.nums. No condition.
-/
namespace Go.Proofs.YtdnbclhidpkpgaaGreat
set_option linter.unusedVariables false
set_option linter.unusedSimpArgs false
open Go.RowKit
def SPost (w : World) (g B : Nat) (r : Int × RS) (en : Ending) (w' : World) : Prop := en = .returned (.int .i64 r.1) ∧ Rdr w' g B r.2.2 r.2.1 ∧ Mod (only g) w w'
def NmPost (w : World) (g B : Nat) (r : List UInt8 × RS) (en : Ending) (w' : World) : Prop := en = .returned (.string (txt r.1)) ∧ Rdr w' g B r.2.2 r.2.1 ∧ Mod (only g) w w'
theorem osmall_ok (w : World) (g B e : Nat) (l : List UInt8) (most : Int) (h : Rdr w g B l e) : Calls Tryz.prog 96 #[.pointer (some ⟨g, 0, none⟩), .int .i64 most] w (SPost w g B (qg 0 most (e, l))) := by
  have kc := range_ok w g B e l 0 most h
  replace h := Lib.hid h
  go_enter Tryz.func96, Tryz.ntmps96
  go_wp2_with fail
  refine kc.mono ?_
  rintro en w1 ⟨rfl, hR, hm⟩
  dsimp only
  replace hR := Lib.hid hR
  replace hm := Lib.hid hm
  go_wp2_with fail
  go_ret
  exact ⟨rfl, hR.out, hm.out⟩
theorem lsmall_ok (w : World) (g B e : Nat) (l : List UInt8) (most : Int) (h : Rdr w g B l e) : Calls Tryz.prog 36 #[.pointer (some ⟨g, 0, none⟩), .int .i64 most] w (SPost w g B (qg 0 most (e, l))) := by
  have kc := range_ok w g B e l 0 most h
  replace h := Lib.hid h
  go_enter Tryz.func36, Tryz.ntmps36
  go_wp2_with fail
  refine kc.mono ?_
  rintro en w1 ⟨rfl, hR, hm⟩
  dsimp only
  replace hR := Lib.hid hR
  replace hm := Lib.hid hm
  go_wp2_with fail
  go_ret
  exact ⟨rfl, hR.out, hm.out⟩
theorem oname_ok (w : World) (g B e : Nat) (l : List UInt8) (h : Rdr w g B l e) : Calls Tryz.prog 97 #[.pointer (some ⟨g, 0, none⟩)] w (NmPost w g B (qt 8 (e, l))) := by
  have kc := rtext_ok w g B e l 8 h (by omega)
  replace h := Lib.hid h
  go_enter Tryz.func97, Tryz.ntmps97
  go_wp2_with fail
  refine kc.mono ?_
  rintro en w1 ⟨rfl, hR, hm⟩
  dsimp only
  replace hR := Lib.hid hR
  replace hm := Lib.hid hm
  go_wp2_with fail
  go_ret
  exact ⟨rfl, hR.out, hm.out⟩
def InPost (w : World) (g B : Nat) (r : Is × RS) (en : Ending) (w' : World) : Prop := en = .returned (.agg #[.int .i64 r.1.r, .int .i64 r.1.n]) ∧ Rdr w' g B r.2.2 r.2.1 ∧ Mod (only g) w w'
theorem Mod.only_of {w w1 : World} (h : Mod none_ w w1) (g : Nat) : Mod (only g) w w1 := h.any _
set_option maxRecDepth 100000 in
theorem inst_size : (Tryz.prog.info? 25).map (·.size) = some 2 := by kernel_rfl
set_option maxRecDepth 100000 in
theorem inst_ok (w : World) (g B e : Nat) (l : List UInt8) (h : Rdr w g B l e) (hBl : B < w.heap.size) : Calls Tryz.prog 35 #[.pointer (some ⟨g, 0, none⟩)] w (InPost w g B (rdIs (e, l))) := by
  have hm0 := (Mod.refl none_ w).alloc (.cells #[.int .i64 0, .int .i64 0] 25)
  have hb0 := Blk.new w 25 #[.int .i64 0, .int .i64 0]
  have hR0 := h.mod0 hm0
  have hgl := h.lt
  have hgl2 : ¬ only g w.heap.size := fun hh => by have : w.heap.size = g := hh; omega
  obtain ⟨r, e1, l1, h1⟩ := tri_ (qg 0 6 (e, l))
  obtain ⟨n, e2, l2, h2⟩ := tri_ (qg 0 10000 (e1, l1))
  have hres : Hid (rdIs (e, l) = (⟨r, n⟩, e2, l2)) := Lib.hid (by unfold rdIs; rw [bd_of h1, bd_of h2]; rfl)
  have k1 := lsmall_ok _ g B e l 6 hR0
  rw [h1] at k1
  have k2 := Lib.hid (fun W (h : Rdr W g B l1 e1) => by have := lsmall_ok W g B e1 l1 10000 h; rw [h2] at this; exact this)
  clear h1 h2 h hR0
  replace hb0 := Lib.hid hb0
  replace hm0 := Lib.hid hm0
  replace hgl := Lib.hid hgl
  replace hgl2 := Lib.hid hgl2
  go_enter Tryz.func35, Tryz.ntmps35
  go_wp2_with fail
  refine k1.mono ?_
  rintro en w1 ⟨rfl, hR, hm⟩
  dsimp only at hR ⊢
  have hb1 := Lib.hid (hb0.out.mod hm hgl2.out)
  have hm1 := Lib.hid ((hm0.out.only_of g).trans hm)
  clear hm
  go_wp2_with fail
  refine (k2.out _ hR).mono ?_
  rintro en w2 ⟨rfl, hR2, hm⟩
  dsimp only at hR2 ⊢
  have hb2 := hb1.out.mod hm hgl2.out
  have hm2 := Lib.hid (hm1.out.trans hm)
  clear hm hR
  obtain ⟨s0, s1, s2, s3⟩ := hb2.two
  have hbl := hb2.lt
  have hm3 := Lib.hid (((hm2.out.setCell (p := ⟨w.heap.size, 0, none⟩) (.inr (Nat.le_refl _)) (.int .i64 r))).setCell (p := ⟨w.heap.size, 1, none⟩) (.inr (Nat.le_refl _)) (.int .i64 n))
  have hR3 := Lib.hid (hR2.mod (((Mod.refl (fun k => k = w.heap.size) w2).setCell (p := ⟨w.heap.size, 0, none⟩) (.inl rfl) (.int .i64 r)).setCell (p := ⟨w.heap.size, 1, none⟩) (.inl rfl) (.int .i64 n)) (fun hh => by have := hgl.out; omega) (fun hh => by omega))
  replace hb2 := Lib.hid hb2
  replace hR2 := Lib.hid hR2
  go_wp2_with fail
  refine ret_row rfl w.heap.size rfl ((hb2.out.set_ 0 _).set_ 1 _) Tryz.underlying25 rfl inst_size rfl ?_
  rw [hres.out]
  exact ⟨rfl, hR3.out, hm3.out⟩
set_option maxRecDepth 100000 in
set_option maxHeartbeats 1000000 in
theorem lnums_ok (w : World) (A : Option Addr) (n c : Nat) (xs : List Int) (h : RdI w A n xs) (hn : n ≤ 1000) (hin : ∀ x ∈ xs, in64 x) : Calls Tryz.prog 46 #[.slice A n c] w (BytesPost w (xs.flatMap nb)) := by
  have hl := h.len
  replace h := Lib.hid h
  replace hl := Lib.hid hl
  replace hin := Lib.hid hin
  go_enter Tryz.func46, Tryz.ntmps46
  go_wp2_with fail
  go_loopw [3, 8] (fun v x wr => ∃ j : Nat, x = .int .i64 j ∧ j ≤ n ∧ ∃ B t d, v = .slice B t d ∧ OwB wr 5 B t d ((xs.take j).flatMap nb) ∧ Fresh w B ∧ Mod none_ w wr ∧ t ≤ 10 * j) (fun _ x _ => n - (intOf x).toNat)
  case atStart => exact ⟨0, rfl, by omega, none, 0, 0, rfl, Ow.nil _ _ _, (fun _ h => by cases h), Mod.refl _ _, by omega⟩
  case round =>
    obtain ⟨j, rfl, hj, B, t, d, rfl, ho, hf, hm, ht⟩ := hrel
    replace ho := Lib.hid ho
    replace hf := Lib.hid hf
    replace hm := Lib.hid hm
    by_cases hlt : j < n
    · obtain ⟨b, o, x, rfl, hx, hcell⟩ := rdi_at (Rd.mod0 h.out hm.out) hlt
      have hxi := hin.out x (List.mem_of_getElem? hx)
      replace hx := Lib.hid hx
      replace hxi := Lib.hid hxi
      go_wp2_with fail
      refine (numB_ok _ x hxi.out).mono ?_
      rintro e w2 ⟨C, d2, rfl, ho2, hf2, hm2⟩
      dsimp only
      clear hcell
      have hk2 := nb_len x
      have ho' := ho.out.mod0 hm2
      have hmm := hm.out.trans hm2
      generalize hk : (nb x).length = k2 at *
      replace ho2 := Lib.hid ho2
      replace hf2 := Lib.hid hf2
      replace hm2 := Lib.hid hm2
      replace ho' := Lib.hid ho'
      replace hmm := Lib.hid hmm
      replace hk := Lib.hid hk
      go_wp2_with (at_builtin; go_loud (refine app8 rfl (.tmp 12) (.tmp 14) rfl rfl ho'.out rfl ho2.out.rd (by omega) ?_; intro A' c' w' h1 h2 h3; replace h1 := Lib.hid h1; replace h2 := Lib.hid h2; replace h3 := Lib.hid h3))
      go_roundw
      case rel =>
        refine ⟨j + 1, by go_num, by omega, A', t + k2, c', rfl, ?_, Fresh.app hf.out hmm.out.size h3.out, hmm.out.app hf.out h2.out, by omega⟩
        have e : xs.take (j + 1) = xs.take j ++ [x] := by rw [List.take_add_one, hx.out]; rfl
        have := h1.out
        rw [e, List.flatMap_append]
        simpa using this
      case measure => simp [intOf]; omega
    · have e : Hid ((xs.take j).flatMap nb = xs.flatMap nb) := by
        refine Lib.hid ?_
        rw [List.take_of_length_le (by have := hl.out; omega)]
      go_wp2_with fail
      go_ret
      have h1 := ho.out
      rw [e.out] at h1
      have h2 := h1.len
      exact ⟨B, d, by rw [h2]; rfl, by rw [h2]; exact h1, hf.out, hm.out⟩
end Go.Proofs.YtdnbclhidpkpgaaGreat
/-
  append of legs and of Insts; what a reader's values are bounded by. No condition.
-/
namespace Go.Proofs.YtdnbclhidpkpgaaGreat
set_option linter.unusedVariables false
set_option linter.unusedSimpArgs false
open Go.RowKit
theorem lgs_one (ls : List Lg) : ∀ u ∈ lgs ls, u.oneCell' = true := by
  intro u hu
  unfold lgs at hu
  rw [List.mem_flatMap] at hu
  obtain ⟨a, _, ha⟩ := hu
  simp only [List.mem_cons, List.not_mem_nil, or_false] at ha
  rcases ha with rfl | rfl <;> rfl
theorem iss_one (ls : List Is) : ∀ u ∈ iss ls, u.oneCell' = true := by
  intro u hu
  unfold iss at hu
  rw [List.mem_flatMap] at hu
  obtain ⟨a, _, ha⟩ := hu
  simp only [List.mem_cons, List.not_mem_nil, or_false] at ha
  rcases ha with rfl | rfl <;> rfl
def zeroL : Value := .agg #[.string ⟨#[]⟩, .int .i64 0]
theorem lginfo : (Tryz.prog.info? 117).map (fun i => (i.zero, i.size, i.bytes)) = some (some zeroL, 2, 24) := by kernel_rfl
def zeroI : Value := .agg #[.int .i64 0, .int .i64 0]
theorem isinfo : (Tryz.prog.info? 25).map (fun i => (i.zero, i.size, i.bytes)) = some (some zeroI, 2, 16) := by kernel_rfl
theorem leg_size : (Tryz.prog.info? 117).map (·.size) = some 2 := by kernel_rfl
def OwL (w : World) (A : Option Addr) (n c : Nat) (ls : List Lg) : Prop := Ow w 117 2 A n c (lgs ls)
def OwP (w : World) (A : Option Addr) (n c : Nat) (ls : List Is) : Prop := Ow w 25 2 A n c (iss ls)
theorem appL {w : World} {ops : Array Oper} {rest : List Oper} {o : Oper} {a : Act} {Q : Exit → Act → World → Prop} (hgd : o.guard = none) (s x : Operand)
    (ho : o.op = .call { callee := .builtin .append, args := #[s, x], argTypes := #[28, 28] })
    {A : Option Addr} {n c : Nat} {xs : List Lg} (hs : a.eval s = .slice A n c) (hown : OwL w A n c xs)
    {S : Option Addr} {m d : Nat} {news : List Lg} (hx : a.eval x = .slice S m d) (hr : RdL w S m news) (hb : (n + m) * 24 ≤ 140737488355328)
    (h : ∀ A' c' w', OwL w' A' (n + m) c' (xs ++ news) → Mod (fp A) w w' → (A' = A ∨ A' = some ⟨w.heap.size, 0, none⟩) → wpList Tryz.prog ops Q rest (a.put o.dst (.slice A' (n + m) c')) w') : wpList Tryz.prog ops Q (o :: rest) a w := by
  obtain ⟨i0, hi, hz0, hz1, hz2⟩ := info_parts lginfo
  refine wpList_append_ow hgd s x 28 ho 117 i0 _ 2 24 Tryz.underlying28 hi hz0 hz1 hz2 rfl (by omega) A n c (lgs xs) hs hown S m d (lgs news) hx hr (lgs_one _) (by omega) (by omega) ?_
  intro A' c' w' h1
  rw [← lgs_append] at h1
  exact h A' c' w' h1
theorem rdl_one (w : World) (e : TypeId) (g : Nat) (hg : g = w.heap.size) (l : Lg) : RdL (w.alloc (.cells #[.string (txt l.n), .int .i64 l.x] e)) (some ⟨g, 0, none⟩) 1 [l] := by
  subst hg
  exact rdn w e 2 1 w.heap.size #[.string (txt l.n), .int .i64 l.x] (0, 0) rfl rfl
theorem rdp_one (w : World) (e : TypeId) (g : Nat) (hg : g = w.heap.size) (l : Is) : RdP (w.alloc (.cells #[.int .i64 l.r, .int .i64 l.n] e)) (some ⟨g, 0, none⟩) 1 [l] := by
  subst hg
  exact rdn w e 2 1 w.heap.size #[.int .i64 l.r, .int .i64 l.n] (0, 0) rfl rfl
theorem run_appP (w : World) (ty : TypeId) {A : Option Addr} {n c : Nat} {xs : List Is} (hown : OwP w A n c xs) {S : Option Addr} {m d : Nat} {news : List Is} (hr : RdP w S m news) (hb : (n + m) * 16 ≤ 140737488355328) :
    ∃ A' c' w', (Builtin.append_ #[31, 31] ty #[.slice A n c, .slice S m d]).run Tryz.prog w = .ok (.slice A' (n + m) c') w' ∧ OwP w' A' (n + m) c' (xs ++ news) ∧ Mod (fp A) w w' ∧ (A' = A ∨ A' = some ⟨w.heap.size, 0, none⟩) := by
  obtain ⟨i0, hi, hz0, hz1, hz2⟩ := info_parts isinfo
  obtain ⟨A', c', w', h1, h2, h3, h4⟩ := run_append_ow (P := Tryz.prog) w 31 ty 25 i0 _ 2 16 Tryz.underlying31 hi hz0 hz1 hz2 rfl (by omega) A n c (iss xs) hown S m d (iss news) hr (iss_one _) (by omega) (by omega)
  rw [← iss_append] at h2
  exact ⟨A', c', w', h1, h2, h3, h4⟩
/-- what a reader's values are, even behind an error -/
theorem rn_in {l : List UInt8} {e : Nat} {v : Int} {r : RS} (h : rn l e = (v, r)) : in64 v := by
  unfold rn at h
  by_cases h1 : e ≠ 0
  · rw [if_pos h1] at h; simp only [Prod.mk.injEq] at h; rw [← h.1]; exact ⟨by omega, by omega⟩
  · rw [if_neg h1] at h
    by_cases h2 : (rdNum l).1 = 0
    · rw [if_pos h2] at h
      obtain ⟨c, m, k, hr⟩ := tri_ (rdNum l)
      rw [hr] at h h2
      simp only [Prod.mk.injEq] at h
      dsimp only at h2
      subst h2
      rw [← h.1]
      exact unzig_in (rdNum_once hr).2.2.2
    · rw [if_neg h2] at h; simp only [Prod.mk.injEq] at h; rw [← h.1]; exact ⟨by omega, by omega⟩
theorem qn_in {s : RS} {v : Int} {r : RS} (h : qn s = (v, r)) : in64 v := rn_in h
theorem qg_in {lo hi : Int} {s : RS} {v : Int} {r : RS} (h : qg lo hi s = (v, r)) : v = 0 ∨ lo ≤ v ∧ v ≤ hi := by
  unfold qg rg at h
  by_cases h1 : (rn s.2 s.1).2.1 ≠ 0
  · rw [if_pos h1] at h
    simp only [Prod.mk.injEq] at h
    exact .inl h.1.symm
  · rw [if_neg h1] at h
    by_cases h2 : (rn s.2 s.1).1 < lo ∨ hi < (rn s.2 s.1).1
    · rw [if_pos h2] at h
      simp only [Prod.mk.injEq] at h
      exact .inl h.1.symm
    · rw [if_neg h2] at h
      rw [h] at h2
      exact .inr ⟨by omega, by omega⟩
theorem qt_in {most : Int} {s : RS} {v : List UInt8} {r : RS} (h : qt most s = (v, r)) (h0 : 0 ≤ most) : (v.length : Int) ≤ most := by
  unfold qt rt at h
  obtain ⟨k, e, q, hr⟩ := tri_ (rg 0 most s.2 s.1)
  rw [hr] at h
  dsimp only at h
  by_cases h1 : e ≠ 0
  · rw [if_pos h1] at h; simp only [Prod.mk.injEq] at h; rw [← h.1]; exact h0
  · rw [if_neg h1] at h
    by_cases h2 : (q.length : Int) < k
    · rw [if_pos h2] at h; simp only [Prod.mk.injEq] at h; rw [← h.1]; exact h0
    · rw [if_neg h2] at h
      simp only [Prod.mk.injEq] at h
      have := qg_in (s := s) hr
      rw [← h.1, List.length_take]
      omega
theorem rdList_in {α : Type} {p : PR α} {ok : α → Prop} (hp : ∀ s v r, p s = (v, r) → ok v) : ∀ (n : Nat) (s : RS) (vs : List α) (r : RS), rdList p n s = (vs, r) → vs.length = n ∧ ∀ v ∈ vs, ok v := by
  intro n
  induction n with
  | zero =>
    intro s vs r h
    simp only [rdList, pu, Prod.mk.injEq] at h
    rw [← h.1]
    exact ⟨rfl, fun v hv => by cases hv⟩
  | succ n ih =>
    intro s vs r h
    obtain ⟨re, rt⟩ := r
    obtain ⟨x, s1, h1, h⟩ := bd_inv h
    obtain ⟨xs, s2, h2, h⟩ := bd_inv h
    simp only [pu, Prod.mk.injEq] at h
    obtain ⟨rfl, rfl⟩ := h
    obtain ⟨k1, k2⟩ := ih _ _ _ h2
    refine ⟨by simp [k1], fun v hv => ?_⟩
    rcases List.mem_cons.1 hv with rfl | hv
    · exact hp _ _ _ h1
    · exact k2 v hv
theorem rdLeg_in (s : RS) (v : Lg) (r : RS) (h : rdLeg s = (v, r)) : okLg v := by
  obtain ⟨re, rt⟩ := r
  unfold rdLeg at h
  obtain ⟨n, s1, h1, h⟩ := bd_inv h
  obtain ⟨x, s2, h2, h⟩ := bd_inv h
  simp only [pu, Prod.mk.injEq] at h
  rw [← h.1]
  exact ⟨by have := qt_in h1 (by omega); dsimp only; omega, qn_in h2⟩
theorem rdIs_in (s : RS) (v : Is) (r : RS) (h : rdIs s = (v, r)) : okIs v := by
  obtain ⟨re, rt⟩ := r
  unfold rdIs at h
  obtain ⟨a, s1, h1, h⟩ := bd_inv h
  obtain ⟨b, s2, h2, h⟩ := bd_inv h
  simp only [pu, Prod.mk.injEq] at h
  rw [← h.1]
  have := qg_in h1
  have := qg_in h2
  exact ⟨by dsimp only; omega, by dsimp only; omega⟩
theorem wf_of64 {x : Int} (h : in64 x) : (Lit.int .i64 x).wf = true := by
  have h1 : IntKind.i64.min = -9223372036854775808 := by decide
  have h2 : IntKind.i64.max = 9223372036854775807 := by decide
  show (decide (IntKind.i64.min ≤ x) && decide (x ≤ IntKind.i64.max)) = true
  rw [h1, h2, decide_eq_true h.1, decide_eq_true h.2]; rfl
theorem txt_small {l : List UInt8} (h : l.length ≤ 1000) : (txt l).size ≤ maxLen := by rw [txt_len]; simp only [maxLen]; omega
/- the readers' contracts, at a result that has a name -/
theorem osmall_r {w : World} {g B e : Nat} {l : List UInt8} {most : Int} {r : Int × RS} (h1 : qg 0 most (e, l) = r) (h : Rdr w g B l e) : Calls Tryz.prog 96 #[.pointer (some ⟨g, 0, none⟩), .int .i64 most] w (SPost w g B r) := h1 ▸ osmall_ok w g B e l most h
theorem lsmall_r {w : World} {g B e : Nat} {l : List UInt8} {most : Int} {r : Int × RS} (h1 : qg 0 most (e, l) = r) (h : Rdr w g B l e) : Calls Tryz.prog 36 #[.pointer (some ⟨g, 0, none⟩), .int .i64 most] w (SPost w g B r) := h1 ▸ lsmall_ok w g B e l most h
theorem oname_r {w : World} {g B e : Nat} {l : List UInt8} {r : List UInt8 × RS} (h1 : qt 8 (e, l) = r) (h : Rdr w g B l e) : Calls Tryz.prog 97 #[.pointer (some ⟨g, 0, none⟩)] w (NmPost w g B r) := h1 ▸ oname_ok w g B e l h
theorem rnum_r {w : World} {g B e : Nat} {l : List UInt8} {r : Int × RS} (h1 : qn (e, l) = r) (h : Rdr w g B l e) : Calls Tryz.prog 95 #[.pointer (some ⟨g, 0, none⟩)] w (RPost w g B r) := h1 ▸ rnum_ok w g B e l h
theorem rtext_r {w : World} {g B e : Nat} {l : List UInt8} {most : Int} {r : List UInt8 × RS} (h1 : qt most (e, l) = r) (hm : most ≤ 9223372036854775807) (h : Rdr w g B l e) : Calls Tryz.prog 70 #[.pointer (some ⟨g, 0, none⟩), .int .i64 most] w (TPost w g B r) := h1 ▸ rtext_ok w g B e l most h hm
theorem inst_r {w : World} {g B e : Nat} {l : List UInt8} {r : Is × RS} (h1 : rdIs (e, l) = r) (h : Rdr w g B l e) (hB : B < w.heap.size) : Calls Tryz.prog 35 #[.pointer (some ⟨g, 0, none⟩)] w (InPost w g B r) := h1 ▸ inst_ok w g B e l h hB
end Go.Proofs.YtdnbclhidpkpgaaGreat
/-
  order.Read. No condition.
-/
namespace Go.Proofs.YtdnbclhidpkpgaaGreat
set_option linter.unusedVariables false
set_option linter.unusedSimpArgs false
open Go.RowKit
def RdOPost (w : World) (r : Od × Nat) (en : Ending) (w' : World) : Prop :=
  ∃ (o : Od) (f : Nat) (L : SV), r = (o, f) ∧ en = .returned (.tuple #[.agg #[.int .i64 o.c, .int .i64 o.s, .int .i64 o.k, .string (txt o.acct), .string (txt o.peer), .int .i64 o.sum, .slice L.a L.n L.c, .int .i64 o.per, .int .i64 o.hold, .string (txt o.note)], .int .i64 (f : Int)]) ∧ OdM w' o L ∧ Fresh w L.a ∧ Mod none_ w w'
def zeroO : Array Value := #[.int .i64 0, .int .i64 0, .int .i64 0, .string ⟨#[]⟩, .string ⟨#[]⟩, .int .i64 0, .slice none 0 0, .int .i64 0, .int .i64 0, .string ⟨#[]⟩]
/-- a loop that reads a list -/
def ListRel {α : Type} (p : PR α) (all : List α) (fin : RS) (left : Nat) (pre : List α) (s : RS) : Prop := ∃ rest, rdList p left s = (rest, fin) ∧ pre ++ rest = all
theorem ListRel.step {α : Type} {p : PR α} {all pre : List α} {fin s s1 : RS} {n : Nat} {x : α} (h : ListRel p all fin (n + 1) pre s) (h1 : p s = (x, s1)) : ListRel p all fin n (pre ++ [x]) s1 := by
  obtain ⟨rest, h2, h3⟩ := h
  exact rdList_step h1 h2 h3
theorem ListRel.done {α : Type} {p : PR α} {all pre : List α} {fin s : RS} (h : ListRel p all fin 0 pre s) : pre = all ∧ s = fin := by
  obtain ⟨rest, h2, h3⟩ := h
  simp only [rdList, pu, Prod.mk.injEq] at h2
  obtain ⟨rfl, h2⟩ := h2
  exact ⟨by simpa using h3, h2⟩
/-- a reader of a struct at work: the reader, the result's variable, the variable that is filled -/
structure FillSt (w : World) (t : TypeId) (z : Array Value) (g B q : Nat) (W : World) (cs : Array Value) (e : Nat) (l : List UInt8) : Prop where
  rd : Rdr W g B l e
  res : Blk W w.heap.size t z
  var : Blk W q t cs
  mod : Mod none_ w W
  gw : w.heap.size < g
  bw : w.heap.size < B
  qw : w.heap.size < q
  qg : q ≠ g
  qb : q ≠ B
  bl : B < W.heap.size
section
variable {w : World} {t : TypeId} {z : Array Value} {g B q : Nat} {W W' : World} {cs : Array Value} {e e' : Nat} {l l' : List UInt8}
theorem FillSt.call (h : FillSt w t z g B q W cs e l) (hm : Mod (only g) W W') (hr : Rdr W' g B l' e') : FillSt w t z g B q W' cs e' l' :=
  ⟨hr, h.res.mod hm (fun hh => by have : w.heap.size = g := hh; have := h.gw; omega), h.var.mod hm (fun hh => h.qg hh), h.mod.in_new (Nat.le_of_lt h.gw) hm, h.gw, h.bw, h.qw, h.qg, h.qb, Nat.lt_of_lt_of_le h.bl hm.size⟩
theorem FillSt.mod0 (h : FillSt w t z g B q W cs e l) (hm : Mod none_ W W') : FillSt w t z g B q W' cs e l :=
  ⟨h.rd.mod0 hm, h.res.mod hm (fun hh => hh), h.var.mod hm (fun hh => hh), h.mod.trans hm, h.gw, h.bw, h.qw, h.qg, h.qb, Nat.lt_of_lt_of_le h.bl hm.size⟩
theorem FillSt.alloc (h : FillSt w t z g B q W cs e l) (o : Obj) : FillSt w t z g B q (W.alloc o) cs e l := h.mod0 ((Mod.refl none_ W).alloc o)
theorem FillSt.drew (h : FillSt w t z g B q W cs e l) : FillSt w t z g B q W.drew cs e l := h.mod0 (Mod.refl none_ W).drew
/-- what another block of the call's own undergoes -/
theorem FillSt.own (h : FillSt w t z g B q W cs e l) {F : Nat → Prop} (hm : Mod F W W') (h1 : ¬ F g) (h2 : ¬ F B) (h3 : ¬ F q) (h4 : ∀ k, F k → w.heap.size < k) : FillSt w t z g B q W' cs e l :=
  ⟨h.rd.mod hm h1 h2, h.res.mod hm (fun hh => by have := h4 _ hh; omega), h.var.mod hm h3, h.mod.then hm (fun i hi hk => by have := h4 _ hk; omega), h.gw, h.bw, h.qw, h.qg, h.qb, Nat.lt_of_lt_of_le h.bl hm.size⟩
theorem FillSt.store (h : FillSt w t z g B q W cs e l) (o : Nat) (v : Value) : FillSt w t z g B q (W.setCell ⟨q, o, none⟩ v) (cs.setIfInBounds o v) e l :=
  have hm := (Mod.refl (only q) W).set_only o v
  ⟨h.rd.mod hm (fun hh => h.qg hh.symm) (fun hh => h.qb hh.symm), h.res.mod hm (fun hh => by have : w.heap.size = q := hh; have := h.qw; omega), h.var.set_ o v, h.mod.in_new (Nat.le_of_lt h.qw) hm, h.gw, h.bw, h.qw, h.qg, h.qb, Nat.lt_of_lt_of_le h.bl hm.size⟩
/-- whatever the variable undergoes -/
theorem FillSt.turn (h : FillSt w t z g B q W cs e l) {cs' : Array Value} (hm : Mod (only q) W W') (hv : Blk W' q t cs') : FillSt w t z g B q W' cs' e l :=
  ⟨h.rd.mod hm (fun hh => h.qg hh.symm) (fun hh => h.qb hh.symm), h.res.mod hm (fun hh => by have : w.heap.size = q := hh; have := h.qw; omega), hv, h.mod.in_new (Nat.le_of_lt h.qw) hm, h.gw, h.bw, h.qw, h.qg, h.qb, Nat.lt_of_lt_of_le h.bl hm.size⟩
end
/-- the list that is read lies in memory of its own -/
structure ListOwn (w : World) (t : TypeId) (size g B q : Nat) (W : World) (A : Option Addr) (m cp : Nat) (xs : List Value) : Prop where
  ow : Ow W t size A m cp xs
  fr : ∀ k, fp A k → w.heap.size < k
  ng : ¬ fp A g
  nb : ¬ fp A B
  nq : ¬ fp A q
theorem ListOwn.nil (w : World) (t : TypeId) (size g B q : Nat) (W : World) : ListOwn w t size g B q W none 0 0 [] :=
  ⟨Ow.nil _ _ _, (fun k h => by obtain ⟨a, ha, _⟩ := h; cases ha), (fun h => by obtain ⟨a, ha, _⟩ := h; cases ha), (fun h => by obtain ⟨a, ha, _⟩ := h; cases ha), (fun h => by obtain ⟨a, ha, _⟩ := h; cases ha)⟩
theorem ListOwn.mod {w : World} {t : TypeId} {size g B q : Nat} {W W' : World} {A : Option Addr} {m cp : Nat} {xs : List Value} (h : ListOwn w t size g B q W A m cp xs) {F : Nat → Prop} (hm : Mod F W W') (hF : ∀ k, fp A k → ¬ F k) : ListOwn w t size g B q W' A m cp xs :=
  ⟨h.ow.mod hm hF, h.fr, h.ng, h.nb, h.nq⟩
theorem ListOwn.call {w : World} {t : TypeId} {size g B q : Nat} {W W' : World} {A : Option Addr} {m cp : Nat} {xs : List Value} (h : ListOwn w t size g B q W A m cp xs) (hm : Mod (only g) W W') : ListOwn w t size g B q W' A m cp xs :=
  h.mod hm (fun k hk hh => by have : k = g := hh; subst this; exact h.ng hk)
theorem ListOwn.turn {w : World} {t : TypeId} {size g B q : Nat} {W W' : World} {A : Option Addr} {m cp : Nat} {xs : List Value} (h : ListOwn w t size g B q W A m cp xs) (hm : Mod (only q) W W') : ListOwn w t size g B q W' A m cp xs :=
  h.mod hm (fun k hk hh => by have : k = q := hh; subst this; exact h.nq hk)
theorem ListOwn.mod0 {w : World} {t : TypeId} {size g B q : Nat} {W W' : World} {A : Option Addr} {m cp : Nat} {xs : List Value} (h : ListOwn w t size g B q W A m cp xs) (hm : Mod none_ W W') : ListOwn w t size g B q W' A m cp xs :=
  h.mod hm (fun k hk hh => hh)
/-- append: the list grows, the rest stands -/
theorem ListOwn.app {w : World} {t t' : TypeId} {z cs : Array Value} {size g B q e : Nat} {l : List UInt8} {W W' : World} {A A' : Option Addr} {m cp m' cp' : Nat} {xs xs' : List Value} (h : ListOwn w t size g B q W A m cp xs) (st : FillSt w t' z g B q W cs e l)
    (ho : Ow W' t size A' m' cp' xs') (hm : Mod (fp A) W W') (hA : A' = A ∨ A' = some ⟨W.heap.size, 0, none⟩) : ListOwn w t size g B q W' A' m' cp' xs' ∧ FillSt w t' z g B q W' cs e l := by
  refine ⟨?_, st.own hm h.ng h.nb h.nq h.fr⟩
  rcases hA with rfl | rfl
  · exact ⟨ho, h.fr, h.ng, h.nb, h.nq⟩
  · have h1 := st.rd.lt
    have h2 := st.bl
    have h3 := st.var.lt
    have h4 := st.res.lt
    refine ⟨ho, ?_, ?_, ?_, ?_⟩
    · rintro k ⟨a, ha, rfl⟩; cases ha; exact h4
    · rintro ⟨a, ha, hk⟩; cases ha; simp only at hk; omega
    · rintro ⟨a, ha, hk⟩; cases ha; simp only at hk; omega
    · rintro ⟨a, ha, hk⟩; cases ha; simp only at hk; omega
theorem FillSt.new_ne {w : World} {t : TypeId} {z : Array Value} {g B q : Nat} {W : World} {cs : Array Value} {e : Nat} {l : List UInt8} (h : FillSt w t z g B q W cs e l) : w.heap.size < W.heap.size ∧ g < W.heap.size ∧ B < W.heap.size ∧ q < W.heap.size := ⟨h.res.lt, h.rd.lt, h.bl, h.var.lt⟩
set_option maxRecDepth 100000 in
set_option maxHeartbeats 8000000 in
theorem orderRead_ok (w : World) (A : Option Addr) (n c : Nat) (b : List UInt8) (h : RdB w A n b) (hn : n ≤ 1000000) : Calls Tryz.prog 71 #[.slice A n c] w (RdOPost w (rdOrd b)) := by
  have hb0 := Blk.new w 30 #[.int .i64 0, .int .i64 0, .int .i64 0, .string ⟨#[]⟩, .string ⟨#[]⟩, .int .i64 0, .slice none 0 0, .int .i64 0, .int .i64 0, .string ⟨#[]⟩]
  have hm0 := (Mod.refl none_ w).alloc (.cells #[.int .i64 0, .int .i64 0, .int .i64 0, .string ⟨#[]⟩, .string ⟨#[]⟩, .int .i64 0, .slice none 0 0, .int .i64 0, .int .i64 0, .string ⟨#[]⟩] 30)
  have kN := new_ok _ A n c b (Rd.mod0 h hm0) (by omega)
  have hs0 : (w.alloc (.cells #[.int .i64 0, .int .i64 0, .int .i64 0, .string ⟨#[]⟩, .string ⟨#[]⟩, .int .i64 0, .slice none 0 0, .int .i64 0, .int .i64 0, .string ⟨#[]⟩] 30)).heap.size = w.heap.size + 1 := by simp
  obtain ⟨x1, e1, l1, h1⟩ := tri_ (qg 0 9 (0, b))
  obtain ⟨x2, e2, l2, h2⟩ := tri_ (qg 0 999 (e1, l1))
  obtain ⟨x3, e3, l3, h3⟩ := tri_ (qg 0 7 (e2, l2))
  obtain ⟨x4, e4, l4, h4⟩ := tri_ (qt 8 (e3, l3))
  obtain ⟨x5, e5, l5, h5⟩ := tri_ (qt 8 (e4, l4))
  obtain ⟨x6, e6, l6, h6⟩ := tri_ (qn (e5, l5))
  obtain ⟨x7, e7, l7, h7⟩ := tri_ (qg 0 6 (e6, l6))
  obtain ⟨ls, e8, l8, h8⟩ := tri_ (rdList rdLeg x7.toNat (e7, l7))
  obtain ⟨x9, e9, l9, h9⟩ := tri_ (qg 0 1000 (e8, l8))
  obtain ⟨x10, e10, l10, h10⟩ := tri_ (qg 0 9999 (e9, l9))
  obtain ⟨x11, e11, l11, h11⟩ := tri_ (qt 20 (e10, l10))
  have hrd : rdO (0, b) = (⟨x1, x2, x3, x4, x5, x6, ls, x9, x10, x11⟩, e11, l11) := by
    unfold rdO
    rw [bd_of h1, bd_of h2, bd_of h3, bd_of h4, bd_of h5, bd_of h6, bd_of h7, bd_of h8, bd_of h9, bd_of h10, bd_of h11]
    rfl
  have hfin : Hid (rdOrd b = if dn l11 e11 ≠ 0 ∨ rightO ⟨x1, x2, x3, x4, x5, x6, ls, x9, x10, x11⟩ = false then (od0, 3) else (⟨x1, x2, x3, x4, x5, x6, ls, x9, x10, x11⟩, 0)) := Lib.hid (by unfold rdOrd; rw [hrd])
  have hx3 := qg_in h3
  have hx7 := qg_in h7
  obtain ⟨hll, hlo⟩ := rdList_in rdLeg_in _ _ _ _ h8
  obtain ⟨k, rfl⟩ : ∃ k : Nat, x7 = (k : Int) := ⟨x7.toNat, by omega⟩
  have hk6 : k ≤ 6 := by omega
  have hl0 : Hid (ListRel rdLeg ls (e8, l8) k [] (e7, l7)) := Lib.hid ⟨ls, by simpa using h8, rfl⟩
  have hwk : Hid ((Lit.int .i64 x3).wf = true) := Lib.hid (wf_of64 ⟨by omega, by omega⟩)
  have hlz : Hid (∀ l ∈ ls, (txt l.n).size ≤ maxLen) := Lib.hid (fun l hl => txt_small (by have := (hlo l hl).1; omega))
  have hll2 : Hid (ls.length = k) := Lib.hid (by simpa using hll)
  clear hrd h h8 hx7 hx3 hlo hll hs0
  replace h1 := Lib.hid h1
  replace h2 := Lib.hid h2
  replace h3 := Lib.hid h3
  replace h4 := Lib.hid h4
  replace h5 := Lib.hid h5
  replace h6 := Lib.hid h6
  replace h7 := Lib.hid h7
  replace h9 := Lib.hid h9
  replace h10 := Lib.hid h10
  replace h11 := Lib.hid h11
  replace hb0 := Lib.hid hb0
  replace hm0 := Lib.hid hm0
  go_enter Tryz.func71, Tryz.ntmps71
  go_wp2_with fail
  refine kN.mono ?_
  rintro en w1 ⟨g, B, rfl, hR, hg, hB, hB', hm⟩
  dsimp only
  clear kN
  simp only [World.size_alloc] at hg hB
  have hng : ¬ only g w.heap.size := fun hh => by have : w.heap.size = g := hh; omega
  have hgB : ¬ only g B := fun hh => by
    obtain ⟨_, _, _, _, _, _, _, _, hne⟩ := hR
    exact hne hh.symm
  have hbr := hb0.out.mod hm (fun h => h)
  have hM := hm0.out.trans hm
  have hg0 : w.heap.size ≤ g := by omega
  clear hm
  replace hbr := Lib.hid hbr
  replace hM := Lib.hid hM
  replace hng := Lib.hid hng
  replace hgB := Lib.hid hgB
  go_wp2_with fail
  refine (osmall_r h1.out hR).mono ?_; rintro en w2 ⟨rfl, hR1, hm⟩; dsimp only at hR1 ⊢
  replace hbr := Lib.hid (hbr.out.mod hm hng.out); replace hM := Lib.hid (hM.out.in_new hg0 hm); have hsz := hm.size; clear hm hR
  go_wp2_with fail
  refine (osmall_r h2.out hR1).mono ?_; rintro en w3 ⟨rfl, hR2, hm⟩; dsimp only at hR2 ⊢
  replace hbr := Lib.hid (hbr.out.mod hm hng.out); replace hM := Lib.hid (hM.out.in_new hg0 hm); have hsz2 := hm.size; clear hm hR1
  go_wp2_with fail
  refine (osmall_r h3.out hR2).mono ?_; rintro en w4 ⟨rfl, hR3, hm⟩; dsimp only at hR3 ⊢
  replace hbr := Lib.hid (hbr.out.mod hm hng.out); replace hM := Lib.hid (hM.out.in_new hg0 hm); have hsz3 := hm.size; clear hm hR2
  have hgl := hR3.lt
  have st0 : FillSt w 30 #[.int .i64 0, .int .i64 0, .int .i64 0, .string ⟨#[]⟩, .string ⟨#[]⟩, .int .i64 0, .slice none 0 0, .int .i64 0, .int .i64 0, .string ⟨#[]⟩] g B w4.heap.size (w4.alloc (.cells #[.int .i64 x1, .int .i64 x2, .int .i64 x3, .string ⟨#[]⟩, .string ⟨#[]⟩, .int .i64 0, .slice none 0 0, .int .i64 0, .int .i64 0, .string ⟨#[]⟩] 30)) #[.int .i64 x1, .int .i64 x2, .int .i64 x3, .string ⟨#[]⟩, .string ⟨#[]⟩, .int .i64 0, .slice none 0 0, .int .i64 0, .int .i64 0, .string ⟨#[]⟩] e3 l3 :=
    ⟨hR3.mod0 ((Mod.refl none_ w4).alloc _), hbr.out.alloc _, Blk.new w4 _ _, hM.out.alloc _, by omega, by omega, by omega, by omega, by omega, by simp only [World.size_alloc]; omega⟩
  clear hR3 hsz hsz2 hsz3 hgl hB'
  generalize hq : w4.heap.size = q at st0
  replace hbr := Lib.hid hbr
  replace hM := Lib.hid hM
  clear hbr hM
  replace st0 := Lib.hid st0
  go_wp2_with fail

  replace hq := Lib.hid hq
  refine (oname_r h4.out st0.out.rd).mono ?_; rintro en w5 ⟨rfl, hR, hm⟩; dsimp only at hR ⊢
  have st := Lib.hid (st0.out.call hm hR); clear hm hR st0
  go_wp2_with fail
  refine (oname_r h5.out st.out.rd).mono ?_; rintro en w6 ⟨rfl, hR, hm⟩; dsimp only at hR ⊢
  replace st := Lib.hid (st.out.call hm hR); clear hm hR
  have i0 : w6.cell? ⟨q, 3, none⟩ = some (.string ⟨#[]⟩) := st.out.var.cell_ rfl
  have i1 : w6.cell? ⟨q, 4, none⟩ = some (.string ⟨#[]⟩) := st.out.var.cell_ rfl
  have f0 : w6.frozen? ⟨q, 3, none⟩ = false := st.out.var.frozen 3
  have f1 : w6.frozen? ⟨q, 4, none⟩ = false := st.out.var.frozen 4
  have st2 : Hid (FillSt w 30 #[.int .i64 0, .int .i64 0, .int .i64 0, .string ⟨#[]⟩, .string ⟨#[]⟩, .int .i64 0, .slice none 0 0, .int .i64 0, .int .i64 0, .string ⟨#[]⟩] g B q ((w6.setCell ⟨q, 3, none⟩ (.string (txt x4))).setCell ⟨q, 4, none⟩ (.string (txt x5))) #[.int .i64 x1, .int .i64 x2, .int .i64 x3, .string (txt x4), .string (txt x5), .int .i64 0, .slice none 0 0, .int .i64 0, .int .i64 0, .string ⟨#[]⟩] e5 l5) := Lib.hid ((st.out.store 3 (.string (txt x4))).store 4 (.string (txt x5)))
  go_wp2_with fail
  refine (rnum_r h6.out st2.out.rd).mono ?_; rintro en w7 ⟨rfl, hR, hm⟩; dsimp only at hR ⊢
  replace st := Lib.hid (st2.out.call hm hR); clear hm hR st2 i0 i1 f0 f1
  have i0 : w7.cell? ⟨q, 5, none⟩ = some (.int .i64 0) := st.out.var.cell_ rfl
  have f0 : w7.frozen? ⟨q, 5, none⟩ = false := st.out.var.frozen 5
  have st2 : Hid (FillSt w 30 #[.int .i64 0, .int .i64 0, .int .i64 0, .string ⟨#[]⟩, .string ⟨#[]⟩, .int .i64 0, .slice none 0 0, .int .i64 0, .int .i64 0, .string ⟨#[]⟩] g B q (w7.setCell ⟨q, 5, none⟩ (.int .i64 x6)) #[.int .i64 x1, .int .i64 x2, .int .i64 x3, .string (txt x4), .string (txt x5), .int .i64 x6, .slice none 0 0, .int .i64 0, .int .i64 0, .string ⟨#[]⟩] e6 l6) := Lib.hid (st.out.store 5 (.int .i64 x6))
  go_wp2_with fail
  refine (osmall_r h7.out st2.out.rd).mono ?_; rintro en w8 ⟨rfl, hR, hm⟩; dsimp only at hR ⊢
  replace st := Lib.hid (st2.out.call hm hR); clear hm hR st2 i0 f0
  go_wp2_with fail
  go_loopw [31] (fun v wr => ∃ j : Nat, v = .int .i64 j ∧ j ≤ k ∧ ∃ A cp pre e l, FillSt w 30 #[.int .i64 0, .int .i64 0, .int .i64 0, .string ⟨#[]⟩, .string ⟨#[]⟩, .int .i64 0, .slice none 0 0, .int .i64 0, .int .i64 0, .string ⟨#[]⟩] g B q wr #[.int .i64 x1, .int .i64 x2, .int .i64 x3, .string (txt x4), .string (txt x5), .int .i64 x6, .slice A j cp, .int .i64 0, .int .i64 0, .string ⟨#[]⟩] e l ∧ ListOwn w 117 2 g B q wr A j cp (lgs pre) ∧ ListRel rdLeg ls (e8, l8) (k - j) pre (e, l)) (fun v _ => k - (intOf v).toNat)
  case atStart => exact ⟨0, rfl, by omega, none, 0, [], e7, l7, st.out, ListOwn.nil _ _ _ _ _ _ _, hl0.out⟩
  case round =>
    obtain ⟨j, rfl, hj, A9, cp, pre, e, l, st, lo, lr⟩ := hrel
    by_cases hlt : j < k
    · obtain ⟨xn, ea, la, ha⟩ := tri_ (qt 8 (e, l))
      obtain ⟨xs, eb, lb, hb⟩ := tri_ (qn (ea, la))
      have hleg : rdLeg (e, l) = (⟨xn, xs⟩, eb, lb) := by unfold rdLeg; rw [bd_of ha, bd_of hb]; rfl
      rw [show k - j = (k - (j + 1)) + 1 by omega] at lr
      have lr2 := Lib.hid (lr.step hleg)
      clear lr hleg
      replace ha := Lib.hid ha
      replace hb := Lib.hid hb
      replace st := Lib.hid st
      replace lo := Lib.hid lo
      go_wp2_with fail
      refine (oname_r ha.out st.out.rd).mono ?_; rintro en w9 ⟨rfl, hR, hm⟩; dsimp only at hR ⊢
      replace lo := Lib.hid (lo.out.call hm)
      replace st := Lib.hid (st.out.call hm hR); clear hm hR
      have hr6 := Lib.hid (Blk.new w9 117 #[.string (txt xn), .int .i64 0])
      obtain ⟨n1, n2, n3, n4⟩ := st.out.new_ne
      have hal := Lib.hid (lo.out.ow.lt)
      replace lo := Lib.hid (lo.out.mod0 ((Mod.refl none_ w9).alloc (.cells #[.string (txt xn), .int .i64 0] 117)))
      replace st := Lib.hid (st.out.alloc (.cells #[.string (txt xn), .int .i64 0] 117))
      go_wp2_with fail
      refine (rnum_r hb.out st.out.rd).mono ?_; rintro en w10 ⟨rfl, hR, hm⟩; dsimp only at hR ⊢
      replace lo := Lib.hid (lo.out.call hm)
      replace hr6 := Lib.hid (hr6.out.mod hm (fun hh => by have : w9.heap.size = g := hh; omega))
      replace st := Lib.hid (st.out.call hm hR); clear hm hR
      have hmS := Lib.hid ((Mod.refl (only w9.heap.size) w10).set_only 1 (.int .i64 xs))
      replace lo := Lib.hid (lo.out.mod hmS.out (fun k hk hh => by have : k = w9.heap.size := hh; have := hal.out k hk; omega))
      have i0 : w10.cell? ⟨w9.heap.size, 0, none⟩ = some (.string (txt xn)) := hr6.out.cell_ rfl
      have i1 : w10.cell? ⟨w9.heap.size, 1, none⟩ = some (.int .i64 0) := hr6.out.cell_ rfl
      have i2 : w10.cell? ⟨q, 6, none⟩ = some (.slice A9 j cp) := st.out.var.cell_ rfl
      have f1 : w10.frozen? ⟨w9.heap.size, 1, none⟩ = false := hr6.out.frozen 1
      have hq1 : ¬ q = w9.heap.size := by omega
      have hq2 : ¬ w9.heap.size = q := by omega
      replace st := Lib.hid (st.out.own hmS.out (fun hh => by have : g = w9.heap.size := hh; omega) (fun hh => by have : B = w9.heap.size := hh; omega) (fun hh => by have : q = w9.heap.size := hh; omega) (fun k hk => by have : k = w9.heap.size := hk; omega))
      have sa := Lib.hid (st.out.alloc (.cells #[.string (txt xn), .int .i64 xs] 117))
      have la2 := Lib.hid (lo.out.mod0 ((Mod.refl none_ (w10.setCell ⟨w9.heap.size, 1, none⟩ (.int .i64 xs))).alloc (.cells #[.string (txt xn), .int .i64 xs] 117)))
      clear st lo hmS hal
      go_wp2_with (at_builtin; go_loud (refine appL rfl (.tmp 43) (.tmp 45) rfl rfl la2.out.ow rfl (rdl_one _ _ _ (by simp) ⟨xn, xs⟩) (by omega) ?_; intro A11 c11 w11 ho hmA hA; obtain ⟨lo, st⟩ := la2.out.app sa.out ho hmA hA; have j2 := st.var.cell_ (i := 6) rfl; have f2 := st.var.frozen 6; clear ho hmA hA; replace lo := Lib.hid lo; replace st := Lib.hid st))
      go_roundw
      case rel => exact ⟨j + 1, by go_num, by omega, A11, c11, pre ++ [⟨xn, xs⟩], eb, lb, st.out.store 6 _, lo.out.turn ((Mod.refl (only q) w11).set_only 6 _), lr2.out⟩
      case measure => simp [intOf]; omega
    · obtain rfl : j = k := by omega
      rw [Nat.sub_self] at lr
      obtain ⟨rfl, hel⟩ := lr.done
      simp only [Prod.mk.injEq] at hel
      obtain ⟨rfl, rfl⟩ := hel
      clear lr hl0
      replace st := Lib.hid st
      replace lo := Lib.hid lo
      go_wp2_with fail
      refine (osmall_r h9.out st.out.rd).mono ?_; rintro en w9 ⟨rfl, hR, hm⟩; dsimp only at hR ⊢
      replace lo := Lib.hid (lo.out.call hm)
      replace st := Lib.hid (st.out.call hm hR); clear hm hR
      go_wp2_with fail
      refine (osmall_r h10.out st.out.rd).mono ?_; rintro en w10 ⟨rfl, hR, hm⟩; dsimp only at hR ⊢
      replace lo := Lib.hid (lo.out.call hm)
      replace st := Lib.hid (st.out.call hm hR); clear hm hR
      have i0 : w10.cell? ⟨q, 7, none⟩ = some (.int .i64 0) := st.out.var.cell_ rfl
      have i1 : w10.cell? ⟨q, 8, none⟩ = some (.int .i64 0) := st.out.var.cell_ rfl
      have f0 : w10.frozen? ⟨q, 7, none⟩ = false := st.out.var.frozen 7
      have f1 : w10.frozen? ⟨q, 8, none⟩ = false := st.out.var.frozen 8
      have st2 : Hid (FillSt w 30 #[.int .i64 0, .int .i64 0, .int .i64 0, .string ⟨#[]⟩, .string ⟨#[]⟩, .int .i64 0, .slice none 0 0, .int .i64 0, .int .i64 0, .string ⟨#[]⟩] g B q ((w10.setCell ⟨q, 7, none⟩ (.int .i64 x9)).setCell ⟨q, 8, none⟩ (.int .i64 x10)) #[.int .i64 x1, .int .i64 x2, .int .i64 x3, .string (txt x4), .string (txt x5), .int .i64 x6, .slice A9 j cp, .int .i64 x9, .int .i64 x10, .string ⟨#[]⟩] e10 l10) := Lib.hid ((st.out.store 7 (.int .i64 x9)).store 8 (.int .i64 x10))
      replace lo := Lib.hid (lo.out.turn (((Mod.refl (only q) w10).set_only 7 (.int .i64 x9)).set_only 8 (.int .i64 x10)))
      clear st
      go_wp2_with fail
      refine (rtext_r h11.out (by omega) st2.out.rd).mono ?_; rintro en w11 ⟨rfl, hR, hm⟩; dsimp only at hR ⊢
      replace lo := Lib.hid (lo.out.call hm)
      replace st := Lib.hid (st2.out.call hm hR); clear hm hR i0 i1 f0 f1 st2
      have i0 : w11.cell? ⟨q, 9, none⟩ = some (.string ⟨#[]⟩) := st.out.var.cell_ rfl
      have f0 : w11.frozen? ⟨q, 9, none⟩ = false := st.out.var.frozen 9
      have st2 : Hid (FillSt w 30 #[.int .i64 0, .int .i64 0, .int .i64 0, .string ⟨#[]⟩, .string ⟨#[]⟩, .int .i64 0, .slice none 0 0, .int .i64 0, .int .i64 0, .string ⟨#[]⟩] g B q (w11.setCell ⟨q, 9, none⟩ (.string (txt x11))) #[.int .i64 x1, .int .i64 x2, .int .i64 x3, .string (txt x4), .string (txt x5), .int .i64 x6, .slice A9 j cp, .int .i64 x9, .int .i64 x10, .string (txt x11)] e11 l11) := Lib.hid (st.out.store 9 (.string (txt x11)))
      replace lo := Lib.hid (lo.out.turn ((Mod.refl (only q) w11).set_only 9 (.string (txt x11))))
      clear st
      go_wp2_with fail
      refine (done_ok _ g B e11 l11 st2.out.rd).mono ?_; rintro en w12 ⟨rfl, hm⟩; dsimp only
      have hbr := Lib.hid (st2.out.res.mod hm (fun hh => by have : w.heap.size = g := hh; have := st2.out.gw; omega))
      have hbq := Lib.hid (st2.out.var.mod hm (fun hh => st2.out.qg hh))
      replace lo := Lib.hid (lo.out.call hm)
      have hM := Lib.hid (st2.out.mod.in_new (Nat.le_of_lt st2.out.gw) hm)
      have hqw := st2.out.qw
      clear hm st2 i0 f0
      generalize hdn : dn l11 e11 = d at *
      replace hdn := Lib.hid hdn
      have hsz := hM.out.size
      by_cases hd : d = 0
      · subst hd
        have hO : Hid (∀ W, Mod none_ w12 W → OdM W ⟨x1, x2, x3, x4, x5, x6, pre, x9, x10, x11⟩ ⟨A9, j, cp⟩) := Lib.hid (fun W hW => ⟨Rd.mod0 lo.out.ow.rd hW, lo.out.ow.2.1⟩)
        have kR := Lib.hid (rightO_ok w12 ⟨x1, x2, x3, x4, x5, x6, pre, x9, x10, x11⟩ ⟨A9, j, cp⟩ (hO.out _ (Mod.refl _ _)) (by dsimp only; omega) hwk.out hlz.out)
        have hfr : Hid (Fresh w A9) := Lib.hid (fun a ha => Nat.le_of_lt (lo.out.fr a.block ⟨a, ha, rfl⟩))
        go_wp2_with (refine wpList_step (fun K hK => ?_); rw [if_pos (by rfl)]; refine wp_load_row 30 (.tmp 5) rfl q rfl _ _ _ _ hbq.out Tryz.underlying30 rfl order_size ?_; refine hK _ _ ?_)
        with_reducible refine kR.out.mono ?_
        rintro en w13 ⟨rfl, hm⟩
        dsimp only
        have hbr1 := Lib.hid (hbr.out.mod hm (fun h => h))
        have hbq1 := Lib.hid (hbq.out.mod hm (fun h => h))
        have hO1 : Hid (∀ W, Mod none_ w13 W → OdM W ⟨x1, x2, x3, x4, x5, x6, pre, x9, x10, x11⟩ ⟨A9, j, cp⟩) := Lib.hid (fun W hW => hO.out W (hm.trans hW))
        have hM1 := Lib.hid (hM.out.trans hm)
        have hnr := Lib.hid (show w.heap.size < q from hqw)
        clear hm hbr hbq hM hO
        cases hr : rightO ⟨x1, x2, x3, x4, x5, x6, pre, x9, x10, x11⟩ with
        | false =>
          have hf : Hid (rdOrd b = (od0, 3)) := Lib.hid (by rw [hfin.out, hr]; simp)
          clear hr
          go_wp2_with (refine wpList_store_blk rfl 30 (.tmp 2) (.tmp 69) rfl w.heap.size 0 _ rfl rfl hbr1.out (by simp) order_size (by rfl) #[.int .i64 0, .int .i64 0, .int .i64 0, .string ⟨#[]⟩, .string ⟨#[]⟩, .int .i64 0, .slice none 0 0, .int .i64 0, .int .i64 0, .string ⟨#[]⟩] rfl ?_; intro w14 hb14 hm14; replace hb14 := Lib.hid hb14; replace hm14 := Lib.hid hm14)
          refine ret_row_tmp rfl w.heap.size rfl hb14.out Tryz.underlying30 rfl order_size (.int .i64 3) rfl rfl ?_
          exact ⟨od0, 3, ⟨none, 0, 0⟩, hf.out, rfl, od0_mem _, (fun a ha => by cases ha), hM1.out.in_new (Nat.le_refl _) hm14.out⟩
        | true =>
          have hf : Hid (rdOrd b = (⟨x1, x2, x3, x4, x5, x6, pre, x9, x10, x11⟩, 0)) := Lib.hid (by rw [hfin.out, hr]; simp)
          clear hr
          go_wp2_with (first | (refine wpList_load_row rfl 30 (.tmp 5) rfl q rfl _ _ _ _ hbq1.out Tryz.underlying30 rfl order_size ?_) | (refine wpList_store_blk rfl 30 (.tmp 2) (.tmp 70) rfl w.heap.size 0 _ rfl rfl hbr1.out (by simp) order_size (by rfl) #[.int .i64 x1, .int .i64 x2, .int .i64 x3, .string (txt x4), .string (txt x5), .int .i64 x6, .slice A9 j cp, .int .i64 x9, .int .i64 x10, .string (txt x11)] rfl ?_; intro w14 hb14 hm14; replace hb14 := Lib.hid hb14; replace hm14 := Lib.hid hm14))
          refine ret_row_tmp rfl w.heap.size rfl hb14.out Tryz.underlying30 rfl order_size (.int .i64 0) rfl rfl ?_
          have hO2 : OdM w14 ⟨x1, x2, x3, x4, x5, x6, pre, x9, x10, x11⟩ ⟨A9, j, cp⟩ := ⟨Rd.mod (hO1.out _ (Mod.refl _ _)).rd hm14.out (fun k hk hh => by have : k = w.heap.size := hh; obtain ⟨a, ha, hka⟩ := hk; have := lo.out.fr a.block ⟨a, ha, rfl⟩; omega), (hO1.out _ (Mod.refl _ _)).cap⟩
          exact ⟨⟨x1, x2, x3, x4, x5, x6, pre, x9, x10, x11⟩, 0, ⟨A9, j, cp⟩, hf.out, rfl, hO2, hfr.out, hM1.out.in_new (Nat.le_refl _) hm14.out⟩
      · have hd2 : ((d : Int) != 0) = true := by simp; omega
        have hf : Hid (rdOrd b = (od0, 3)) := Lib.hid (by rw [hfin.out, if_pos (.inl hd)])
        go_wp2_with (refine wpList_store_blk rfl 30 (.tmp 2) (.tmp 69) rfl w.heap.size 0 _ rfl rfl hbr.out (by simp) order_size (by rfl) #[.int .i64 0, .int .i64 0, .int .i64 0, .string ⟨#[]⟩, .string ⟨#[]⟩, .int .i64 0, .slice none 0 0, .int .i64 0, .int .i64 0, .string ⟨#[]⟩] rfl ?_; intro w14 hb14 hm14; replace hb14 := Lib.hid hb14; replace hm14 := Lib.hid hm14)
        refine ret_row_tmp rfl w.heap.size rfl hb14.out Tryz.underlying30 rfl order_size (.int .i64 3) rfl rfl ?_
        exact ⟨od0, 3, ⟨none, 0, 0⟩, hf.out, rfl, od0_mem _, (fun a ha => by cases ha), hM.out.in_new (Nat.le_refl _) hm14.out⟩
end Go.Proofs.YtdnbclhidpkpgaaGreat
/-
  log.Bytes. No condition.
-/
namespace Go.Proofs.YtdnbclhidpkpgaaGreat
set_option linter.unusedVariables false
set_option linter.unusedSimpArgs false
open Go.RowKit
theorem slot_size : (Tryz.prog.info? 35).map (·.size) = some 15 := by kernel_rfl
theorem rdi_row (w : World) (e : TypeId) (g : Nat) (hg : g = w.heap.size) (xs : List Int) : RdI (w.alloc (.cells (ivs xs).toArray e)) (some ⟨g, 0, none⟩) xs.length xs :=
  rdn w e 1 xs.length g (ivs xs).toArray (0, 0) hg (by simp [ivs])
/-- numbers' bytes, of a row that the call has made -/
theorem lnums_row (w : World) (e : TypeId) (g : Nat) (hg : g = w.heap.size) (xs : List Int) (n : Nat) (hn : xs.length = n) (hn2 : n ≤ 1000) (hin : ∀ x ∈ xs, in64 x) (cs : Array Value) (hcs : (ivs xs).toArray = cs) :
    Calls Tryz.prog 46 #[.slice (some ⟨g, 0, none⟩) n n] (w.alloc (.cells cs e)) (BytesPost (w.alloc (.cells cs e)) (xs.flatMap nb)) := by
  subst hcs hn hg
  exact lnums_ok _ _ _ _ _ (rdi_row w e _ rfl xs) hn2 hin
theorem ByAt.conv {w : World} {s : SV} {l : List UInt8} (h : ByAt w s l) : (convert 22 9 (.slice s.a s.n s.c)).run Tryz.prog w = .ok (.string (txt l)) w :=
  run_string_of_bytes w _ _ 5 Tryz.underlying22 Tryz.underlying5 Tryz.underlying9 s.a s.n s.c l h.rd
/-- bytes of the call's own -/
structure OwnB (w W : World) (A : Option Addr) (n c : Nat) (l : List UInt8) : Prop where
  ow : OwB W 5 A n c l
  fr : Fresh w A
  sm : n ≤ 100000000
theorem OwnB.mod0 {w W W' : World} {A : Option Addr} {n c : Nat} {l : List UInt8} (h : OwnB w W A n c l) (hm : Mod none_ W W') : OwnB w W' A n c l := ⟨h.ow.mod0 hm, h.fr, h.sm⟩
theorem OwnB.at_ {w W : World} {A : Option Addr} {n c : Nat} {l : List UInt8} (h : OwnB w W A n c l) : ByAt W ⟨A, n, c⟩ l := ⟨h.ow.rd, h.sm⟩
theorem OwnB.of {w w1 W : World} {A : Option Addr} {c : Nat} {l : List UInt8} (h : OwB W 5 A l.length c l) (hf : Fresh w1 A) (hm : Mod none_ w w1) (hl : l.length ≤ 100000000) : OwnB w W A l.length c l := ⟨h, hf.later hm.size, hl⟩
theorem OwnB.app {w W W' : World} {A A' : Option Addr} {n c m c' : Nat} {l l' : List UInt8} (h : OwnB w W A n c l) (hM : Mod none_ w W) (ho : OwB W' 5 A' (n + m) c' (l ++ l')) (hm : Mod (fp A) W W') (hA : A' = A ∨ A' = some ⟨W.heap.size, 0, none⟩) (hs : n + m ≤ 100000000) :
    OwnB w W' A' (n + m) c' (l ++ l') ∧ Mod none_ w W' := ⟨⟨ho, h.fr.app hM.size hA, hs⟩, hM.app h.fr hm⟩
theorem flat3_len (xs : List Is) : (xs.flatMap isB).length ≤ xs.length * 20 := flat_le isB 20 xs fun i _ => by
  have := nb_len i.r
  have := nb_len i.n
  unfold isB; rw [List.length_append]; omega
theorem headB_flat (r : Rc) : [r.i.r, r.i.n, r.bal, r.st, r.by_].flatMap nb = headB r := by simp [headB]
theorem headB_len (r : Rc) : (headB r).length ≤ 50 := by
  have := nb_len r.i.r
  have := nb_len r.i.n
  have := nb_len r.bal
  have := nb_len r.st
  have := nb_len r.by_
  unfold headB
  simp only [List.length_append]
  omega
/-- bytes that grow, beside a variable -/
structure BufSt (w : World) (t : TypeId) (q : Nat) (cs : Array Value) (W : World) (A : Option Addr) (n c : Nat) (l : List UInt8) : Prop where
  own : OwnB w W A n c l
  mod : Mod none_ w W
  blk : Blk W q t cs
  aq : ∀ k, fp A k → q < k
section
variable {w : World} {t : TypeId} {q : Nat} {cs : Array Value} {W W' : World} {A A' : Option Addr} {n c m c' : Nat} {l l' : List UInt8}
theorem BufSt.mod0 (h : BufSt w t q cs W A n c l) (hm : Mod none_ W W') : BufSt w t q cs W' A n c l := ⟨h.own.mod0 hm, h.mod.trans hm, h.blk.mod hm (fun h => h), h.aq⟩
theorem BufSt.app (h : BufSt w t q cs W A n c l) (ho : OwB W' 5 A' (n + m) c' (l ++ l')) (hm : Mod (fp A) W W') (hA : A' = A ∨ A' = some ⟨W.heap.size, 0, none⟩) (hs : n + m ≤ 100000000) : BufSt w t q cs W' A' (n + m) c' (l ++ l') := by
  obtain ⟨h1, h2⟩ := h.own.app h.mod ho hm hA hs
  refine ⟨h1, h2, h.blk.mod hm (fun hh => by have := h.aq _ hh; omega), ?_⟩
  rcases hA with rfl | rfl
  · exact h.aq
  · rintro k ⟨a, ha, rfl⟩; cases ha; exact h.blk.lt
theorem BufSt.len (h : BufSt w t q cs W A n c l) : l.length = n := h.own.ow.len
theorem BufSt.new (hm : Mod none_ w W) (hb : Blk W q t cs) (ho : OwB W' 5 A l.length c l) (hf : Fresh W A) (hm2 : Mod none_ W W') (hl : l.length ≤ 100000000) : BufSt w t q cs W' A l.length c l :=
  ⟨OwnB.of ho hf hm hl, hm.trans hm2, hb.mod hm2 (fun h => h), fun k hk => by obtain ⟨a, ha, rfl⟩ := hk; have := hf a ha; have := hb.lt; omega⟩
end
set_option maxRecDepth 100000 in
set_option maxHeartbeats 8000000 in
theorem logBytes_ok (w : World) (r : Rc) (L D : SV) (hE : EnM w r.e L D) (hL : L.n ≤ 140737488355328) (hD : D.n ≤ 140737488355328) (hk : (Lit.int .i64 r.e.o.k).wf = true) (hz : ∀ l ∈ r.e.o.legs, (txt l.n).size ≤ maxLen) (hn : numsE r.e) :
    Calls Tryz.prog 16 #[.agg #[.int .i64 r.i.r, .int .i64 r.i.n, .int .i64 r.bal, .int .i64 r.st, .int .i64 r.by_, .int .i64 r.e.o.c, .int .i64 r.e.o.s, .int .i64 r.e.o.k, .string (txt r.e.o.acct), .string (txt r.e.o.peer), .int .i64 r.e.o.sum, .slice L.a L.n L.c, .int .i64 r.e.o.per, .int .i64 r.e.o.hold, .string (txt r.e.o.note), .bool r.e.none, .slice D.a D.n D.c]] w (BPost w (rightR r) (recB r)) := by
  have hB := Blk.new w 37 #[.int .i64 r.i.r, .int .i64 r.i.n, .int .i64 r.bal, .int .i64 r.st, .int .i64 r.by_, .int .i64 r.e.o.c, .int .i64 r.e.o.s, .int .i64 r.e.o.k, .string (txt r.e.o.acct), .string (txt r.e.o.peer), .int .i64 r.e.o.sum, .slice L.a L.n L.c, .int .i64 r.e.o.per, .int .i64 r.e.o.hold, .string (txt r.e.o.note), .bool r.e.none, .slice D.a D.n D.c]
  have hm0 := (Mod.refl none_ w).alloc (.cells #[.int .i64 r.i.r, .int .i64 r.i.n, .int .i64 r.bal, .int .i64 r.st, .int .i64 r.by_, .int .i64 r.e.o.c, .int .i64 r.e.o.s, .int .i64 r.e.o.k, .string (txt r.e.o.acct), .string (txt r.e.o.peer), .int .i64 r.e.o.sum, .slice L.a L.n L.c, .int .i64 r.e.o.per, .int .i64 r.e.o.hold, .string (txt r.e.o.note), .bool r.e.none, .slice D.a D.n D.c] 37)
  have kR := Lib.hid (rightR_ok _ r L D (hE.mod0 hm0) hL hD hk hz)
  have kO := Lib.hid (fun W (h : Mod none_ w W) => orderBytes_ok W r.e.o L (hE.od.mod0 h) hL hk hz hn)
  have hrdD := Lib.hid hE.rd
  have hdl := Lib.hid hE.rd.len
  replace hB := Lib.hid hB
  replace hm0 := Lib.hid hm0
  replace hz := Lib.hid hz
  go_enter Tryz.func16, Tryz.ntmps16
  go_wp2_with (refine wpList_load_row rfl 37 (.tmp 1) rfl w.heap.size rfl _ _ _ _ hB.out Tryz.underlying37 rfl record_size ?_)
  with_reducible refine kR.out.mono ?_
  rintro e w1 ⟨rfl, hm1⟩
  dsimp only
  cases hr : rightR r with
  | false =>
    replace hr := Lib.hid hr
    replace hm1 := Lib.hid hm1
    go_wp2_with fail
    go_ret2
    exact .inr ⟨hr.out, rfl, hm0.out.trans hm1.out⟩
  | true =>
    have hok := rightR_okRc hr hn
    obtain ⟨⟨⟨k1, k1'⟩, ⟨k2, k2'⟩⟩, ⟨k3, k3'⟩, ⟨k4, k4'⟩, ⟨k5, k5'⟩, k6⟩ := hok
    have hB1 := hB.out.mod hm1 (fun h => h)
    have hmm := Lib.hid (hm0.out.trans hm1)
    have hBs := Blk.new w1 35 #[.int .i64 r.bal, .int .i64 r.st, .int .i64 r.by_, .int .i64 r.e.o.c, .int .i64 r.e.o.s, .int .i64 r.e.o.k, .string (txt r.e.o.acct), .string (txt r.e.o.peer), .int .i64 r.e.o.sum, .slice L.a L.n L.c, .int .i64 r.e.o.per, .int .i64 r.e.o.hold, .string (txt r.e.o.note), .bool r.e.none, .slice D.a D.n D.c]
    have c0 : w1.cell? ⟨w.heap.size, 0, none⟩ = some (.int .i64 r.i.r) := hB1.cell_ rfl
    have c1 : w1.cell? ⟨w.heap.size, 1, none⟩ = some (.int .i64 r.i.n) := hB1.cell_ rfl
    have hwl := hB1.lt
    have kn := lnums_row (w1.alloc (.cells #[.int .i64 r.bal, .int .i64 r.st, .int .i64 r.by_, .int .i64 r.e.o.c, .int .i64 r.e.o.s, .int .i64 r.e.o.k, .string (txt r.e.o.acct), .string (txt r.e.o.peer), .int .i64 r.e.o.sum, .slice L.a L.n L.c, .int .i64 r.e.o.per, .int .i64 r.e.o.hold, .string (txt r.e.o.note), .bool r.e.none, .slice D.a D.n D.c] 35)) 3 (w1.heap.size + 1) (by simp) [r.i.r, r.i.n, r.bal, r.st, r.by_] 5 rfl (by omega) (fun x hx => by simp at hx; rcases hx with rfl | rfl | rfl | rfl | rfl <;> exact in64_mk (by omega) (by omega)) #[.int .i64 r.i.r, .int .i64 r.i.n, .int .i64 r.bal, .int .i64 r.st, .int .i64 r.by_] rfl
    rw [headB_flat] at kn
    replace hr := Lib.hid hr
    replace hm1 := Lib.hid hm1
    replace hB1 := Lib.hid hB1
    replace hBs := Lib.hid hBs
    replace k6 := Lib.hid k6
    replace kn := Lib.hid kn
    replace hn := Lib.hid hn
    clear hB
    go_wp2_with (refine wpList_load_blk rfl 35 (.tmp 13) rfl w.heap.size 2 rfl hB1.out [.int .i64 r.bal, .int .i64 r.st, .int .i64 r.by_, .int .i64 r.e.o.c, .int .i64 r.e.o.s, .int .i64 r.e.o.k, .string (txt r.e.o.acct), .string (txt r.e.o.peer), .int .i64 r.e.o.sum, .slice L.a L.n L.c, .int .i64 r.e.o.per, .int .i64 r.e.o.hold, .string (txt r.e.o.note), .bool r.e.none, .slice D.a D.n D.c] rfl Tryz.underlying35 rfl slot_size ?_)
    refine kn.out.mono ?_; rintro e w5 ⟨A5, c5, rfl, ho5, hf5, hm5⟩; dsimp only
    have hhl := headB_len r
    have zb5 := Lib.hid (BufSt.new (hmm.out.alloc _) hBs.out ho5 (hf5.later (by simp)) (((Mod.refl none_ _).alloc _).trans hm5) (by omega))
    generalize hq : w1.heap.size = q at *
    generalize hg5 : (headB r).length = n5 at *
    have s1 : w5.cell? ⟨q, 1, none⟩ = some (.int .i64 r.st) := zb5.out.blk.cell_ rfl
    have s13 : w5.cell? ⟨q, 13, none⟩ = some (.bool r.e.none) := zb5.out.blk.cell_ rfl
    clear ho5 hf5 hm5 kn hB1 hBs c0 c1 hmm hwl hm1 hm0
    replace hq := Lib.hid hq
    replace hg5 := Lib.hid hg5
    by_cases hs : r.st = 0
    · rw [hs] at s1
      have hrec : Hid (headB r = recB r) := Lib.hid (by unfold recB; rw [if_pos hs, List.append_nil])
      replace hs := Lib.hid hs
      go_wp2_with fail
      go_ret2
      have h1 := zb5.out
      rw [hrec.out] at h1
      have h2 := h1.len
      subst h2
      exact .inl ⟨hr.out, A5, c5, rfl, h1.own.ow, h1.own.fr, h1.mod⟩
    · have k6 := k6.out
      rw [if_neg hs] at k6
      obtain ⟨k7, k8, k9⟩ := k6
      have hst2 : (r.st == 0) = false := by simp; exact hs
      have hdk := Lib.hid k9
      have hD100 : D.n ≤ 100 := by rw [← hdl.out]; exact k8
      have hrec0 : recB r = headB r ++ entB r.e := by unfold recB; rw [if_neg hs]
      clear k8 k9
      replace hs := Lib.hid hs
      cases hnn : r.e.none with
      | true =>
        rw [hnn] at s13 k7
        have hrec : Hid (recB r = headB r ++ (nb 1 ++ (nb (r.e.deps.length : Int) ++ r.e.deps.flatMap isB))) := Lib.hid (by rw [hrec0]; unfold entB; rw [hnn]; simp)
        clear hrec0 k7
        replace hnn := Lib.hid hnn
        have kn := lnums_row w5 3 w5.heap.size rfl [1] 1 rfl (by omega) (fun x hx => by simp at hx; subst hx; exact in64_mk (by omega) (by omega)) #[.int .i64 1] rfl
        have hfl : [(1 : Int)].flatMap nb = nb 1 := by simp
        rw [hfl] at kn
        clear hfl
        go_wp2_with fail
        refine kn.mono ?_; rintro e w6 ⟨A6, c6, rfl, ho6, hf6, hm6⟩; dsimp only
        have zb6 := Lib.hid (zb5.out.mod0 (((Mod.refl none_ w5).alloc (.cells #[.int .i64 1] 3)).trans hm6))
        have hl6 := nb_len 1
        generalize hg6 : (nb 1).length = n6 at *
        clear hm6 kn hf6 zb5 s1 s13
        replace ho6 := Lib.hid ho6
        replace hg6 := Lib.hid hg6
        go_upto_region 11 with (at_builtin; go_loud (refine app8 rfl (.tmp 53) (.tmp 55) rfl rfl zb6.out.own.ow rfl ho6.out.rd (by omega) ?_; intro Ab cb W ho7 hm7 hA7; have zb := Lib.hid (zb6.out.app ho7 hm7 hA7 (by omega)); clear ho7 hm7 hA7))
        -- what it waits for
        have ss : W.cell? ⟨q, 14, none⟩ = some (.slice D.a D.n D.c) := zb.out.blk.cell_ rfl
        have kn := lnums_row W 3 W.heap.size rfl [(D.n : Int)] 1 rfl (by omega) (fun x hx => by simp at hx; subst hx; exact in64_mk (by omega) (by omega)) #[.int .i64 (D.n : Int)] rfl
        have hfl6 : [(D.n : Int)].flatMap nb = nb (D.n : Int) := by simp
        rw [hfl6] at kn
        clear hfl6
        go_wp2_with fail
        refine kn.mono ?_; rintro e w6 ⟨A6, c6, rfl, ho6, hf6, hm6⟩; dsimp only
        have zb6 := Lib.hid (zb.out.mod0 (((Mod.refl none_ W).alloc (.cells #[.int .i64 (D.n : Int)] 3)).trans hm6))
        have hl6 := nb_len (D.n : Int)
        generalize hg6 : (nb (D.n : Int)).length = n6 at *
        clear hm6 kn hf6 ss zb
        replace ho6 := Lib.hid ho6
        replace hg6 := Lib.hid hg6
        go_wp2_with (at_builtin; go_loud (refine app8 rfl (.tmp 57) (.tmp 63) rfl rfl zb6.out.own.ow rfl ho6.out.rd (by omega) ?_; intro A7 c7 w7 ho7 hm7 hA7; have zb7 := Lib.hid (zb6.out.app ho7 hm7 hA7 (by omega)); have s7 := zb7.out.blk.cell_ (i := 14) (v := .slice D.a D.n D.c) rfl; clear ho7 hm7 hA7))
        clear s7
        go_loopw [5, 69] (fun v x wr => ∃ j : Nat, x = .int .i64 j ∧ j ≤ D.n ∧ ∃ A n c, v = .slice A n c ∧ n ≤ 70 + j * 20 ∧ BufSt w 35 q #[.int .i64 r.bal, .int .i64 r.st, .int .i64 r.by_, .int .i64 r.e.o.c, .int .i64 r.e.o.s, .int .i64 r.e.o.k, .string (txt r.e.o.acct), .string (txt r.e.o.peer), .int .i64 r.e.o.sum, .slice L.a L.n L.c, .int .i64 r.e.o.per, .int .i64 r.e.o.hold, .string (txt r.e.o.note), .bool r.e.none, .slice D.a D.n D.c] wr A n c (((headB r ++ nb 1) ++ nb (D.n : Int)) ++ (r.e.deps.take j).flatMap isB)) (fun _ x _ => D.n - (intOf x).toNat)
        case atStart => exact ⟨0, rfl, by omega, A7, _, c7, rfl, by omega, by simpa using zb7.out⟩
        case round =>
          obtain ⟨j, rfl, hj, A, n, c, rfl, hnj, zb⟩ := hrel
          by_cases hlt : j < D.n
          · obtain ⟨b, p, d, hDa, hdm, hdj, x1, x2⟩ := rdp_get (hrdD.out.mod0 zb.mod) hlt
            have hdi := hdk.out d hdm
            rw [hDa]
            have kn := lnums_row (wr.alloc (.cells #[.int .i64 d.r, .int .i64 d.n] 25)) 3 (wr.heap.size + 1) (by simp) [d.r, d.n] 2 rfl (by omega) (fun x hx => by simp at hx; rcases hx with rfl | rfl <;> exact in64_mk (by have := hdi.1; have := hdi.2; omega) (by have := hdi.1; have := hdi.2; omega)) #[.int .i64 d.r, .int .i64 d.n] rfl
            have hfl6 : [d.r, d.n].flatMap nb = isB d := by simp [isB]
            rw [hfl6] at kn
            clear hfl6
            replace zb := Lib.hid zb
            replace hdm := Lib.hid hdm
            replace hdj := Lib.hid hdj
            replace hdi := Lib.hid hdi
            go_wp2_with fail
            refine kn.mono ?_; rintro e w8 ⟨A8, c8, rfl, ho8, hf8, hm8⟩; dsimp only
            have zb8 := Lib.hid (zb.out.mod0 ((((Mod.refl none_ wr).alloc (.cells #[.int .i64 d.r, .int .i64 d.n] 25)).alloc (.cells #[.int .i64 d.r, .int .i64 d.n] 3)).trans hm8))
            have hl8 : (isB d).length ≤ 20 := by have := nb_len d.r; have := nb_len d.n; unfold isB; rw [List.length_append]; omega
            generalize hg8 : (isB d).length = n8 at *
            clear hm8 kn hf8 zb
            replace ho8 := Lib.hid ho8
            replace hg8 := Lib.hid hg8
            go_wp2_with (at_builtin; go_loud (refine app8 rfl (.tmp 73) (.tmp 79) rfl rfl zb8.out.own.ow rfl ho8.out.rd (by omega) ?_; intro A9 c9 w9 ho9 hm9 hA9; have zb9 := Lib.hid (zb8.out.app ho9 hm9 hA9 (by omega)); clear ho9 hm9 hA9))
            go_roundw
            case rel =>
              refine ⟨j + 1, by go_num, by omega, A9, _, c9, rfl, by omega, ?_⟩
              have e1 : (r.e.deps.take (j + 1)).flatMap isB = (r.e.deps.take j).flatMap isB ++ isB d := by rw [List.take_add_one, hdj.out]; simp
              rw [e1, ← List.append_assoc]
              have h9 := zb9.out
              rw [hDa] at h9
              exact h9
            case measure => simp [intOf]; omega
          · have hjl : j = D.n := by omega
            subst hjl
            rw [List.take_of_length_le (by have := hdl.out; omega)] at zb
            have hlist : ((headB r ++ nb 1) ++ nb (D.n : Int)) ++ r.e.deps.flatMap isB = recB r := by rw [hrec.out, ← hdl.out]; simp
            rw [hlist] at zb
            have hlen := zb.len
            subst hlen
            clear hlist
            replace zb := Lib.hid zb
            generalize hlo : recB r = lo at *
            replace hlo := Lib.hid hlo
            go_wp2_with fail
            go_ret2
            exact .inl ⟨hr.out, A, c, rfl, zb.out.own.ow, zb.out.own.fr, zb.out.mod⟩
      | false =>
        rw [hnn] at s13 k7
        simp only [Bool.false_eq_true, if_false] at k7
        obtain ⟨k7, k8⟩ := k7
        have hol := orderB_len k8
        have hrec : Hid (recB r = headB r ++ ((nb 0 ++ txtB (orderB r.e.o)) ++ (nb (r.e.deps.length : Int) ++ r.e.deps.flatMap isB))) := Lib.hid (by rw [hrec0]; unfold entB; rw [hnn]; simp)
        clear hrec0 k8
        have kO5 := kO.out w5 zb5.out.mod
        rw [k7] at kO5
        replace hnn := Lib.hid hnn
        replace k7 := Lib.hid k7
        go_wp2_with (refine wpList_load_blk rfl 30 (.tmp 31) rfl q 3 rfl zb5.out.blk [.int .i64 r.e.o.c, .int .i64 r.e.o.s, .int .i64 r.e.o.k, .string (txt r.e.o.acct), .string (txt r.e.o.peer), .int .i64 r.e.o.sum, .slice L.a L.n L.c, .int .i64 r.e.o.per, .int .i64 r.e.o.hold, .string (txt r.e.o.note)] rfl Tryz.underlying30 rfl order_size ?_)
        with_reducible refine kO5.mono ?_
        rintro e w6 hpost
        obtain ⟨A6, c6, rfl, ho6, hf6, hm6⟩ : ∃ A c, e = .returned (.tuple #[.slice A (orderB r.e.o).length c, .int .i64 0]) ∧ OwB w6 5 A (orderB r.e.o).length c (orderB r.e.o) ∧ Fresh w5 A ∧ Mod none_ w5 w6 := by
          rcases hpost with ⟨_, h⟩ | ⟨h, _⟩
          · exact h
          · cases h
        dsimp only
        have zb6 := Lib.hid (zb5.out.mod0 hm6)
        have zo6 := Lib.hid (ByAt.of_ow ho6 (by omega))
        generalize hgo : (orderB r.e.o).length = m6 at *
        replace hgo := Lib.hid hgo
        clear hpost ho6 hf6 hm6 kO5 s1 s13 zb5
        go_wp2_with fail
        have hM0 := Lib.hid ((Mod.refl none_ w6).drew)
        have kC6 := Lib.hid (fun W (h : Mod none_ w6 W) => ByAt.conv (zo6.out.mod0 h))
        dsimp only at kC6
        refine wp_region_held_drew (S := fun W => Mod none_ w6 W) (by kernel_rfl) hM0.out (fun hHeld => ?_)
        refine wpAnyH_take (i := 0) (v := ?_) rfl (by kernel_rfl) (by kernel_rfl) (by kernel_rfl) (fun _ _ _ h => h) (Or.inl ⟨by rfl, ?_⟩) (by assumption) ?_
        rotate_left
        · intro W hSw; (try dsimp only at hSw); go_simp; (try with_reducible rfl)
        try simp only [Act.put, List.getElem_toArray, List.getElem_cons_zero, List.getElem_cons_succ, List.setIfInBounds_toArray, List.set_cons_zero, List.set_cons_succ]
        refine wpAnyH_take (i := 3) (v := ?_) rfl (by kernel_rfl) (by kernel_rfl) (by kernel_rfl) (fun _ _ _ h => h) (Or.inl ⟨by rfl, ?_⟩) (by assumption) ?_
        rotate_left
        · intro W hSw; (try dsimp only at hSw); go_simp; (try with_reducible rfl)
        try simp only [Act.put, List.getElem_toArray, List.getElem_cons_zero, List.getElem_cons_succ, List.setIfInBounds_toArray, List.set_cons_zero, List.set_cons_succ]
        refine wpAnyH_take (i := 4) (v := ?_) rfl (by kernel_rfl) (by kernel_rfl) (by kernel_rfl) (fun _ _ _ h => h) (Or.inl ⟨by rfl, ?_⟩) (by assumption) ?_
        rotate_left
        · intro W hSw; have hcv := kC6.out W hSw; go_simp; (try with_reducible rfl)
        try simp only [Act.put, List.getElem_toArray, List.getElem_cons_zero, List.getElem_cons_succ, List.setIfInBounds_toArray, List.set_cons_zero, List.set_cons_succ]
        refine wpAnyH_ready (rs := [1]) (by kernel_rfl) (by simp) ?_
        refine AllReadyH.cons rfl (fun K hK => ?_) AllReadyH.nil
        go_simp
        refine hK.out _ _ (((Mod.refl none_ w6).alloc (.cells #[.int .i64 0] 3)).drew) (fun hHeld => ?_)
        clear hK K
        try simp only [Act.put, List.getElem_toArray, List.getElem_cons_zero, List.getElem_cons_succ, List.setIfInBounds_toArray, List.set_cons_zero, List.set_cons_succ]
        have kn := lnums_ok (w6.alloc (.cells #[.int .i64 0] 3)).drew (some ⟨w6.heap.size, 0, none⟩) 1 1 [0] (rdi_row w6 3 _ rfl [0]) (by omega) (fun x hx => by simp at hx; subst hx; exact in64_mk (by omega) (by omega))
        have hfl : [(0 : Int)].flatMap nb = nb 0 := by simp
        rw [hfl] at kn
        refine wpAnyH_ready (rs := [2]) (by kernel_rfl) (by simp) ?_
        refine AllReadyH.cons rfl (fun K hK => ?_) AllReadyH.nil
        go_simp
        (with_reducible refine kn.mono ?_); rintro e2 w7 ⟨A7, c7, rfl, ho7, hf7, hm7⟩; dsimp only
        have hM7 := Lib.hid ((((Mod.refl none_ w6).alloc (.cells #[.int .i64 0] 3)).drew).trans hm7)
        have z7 := Lib.hid (ByAt.of_ow ho7 (nb_small _))
        clear kn hm7 hf7 ho7 hfl
        go_wp2_with fail
        refine hK.out _ _ (hM7.out) (fun hHeld => ?_)
        clear hK K
        try simp only [Act.put, List.getElem_toArray, List.getElem_cons_zero, List.getElem_cons_succ, List.setIfInBounds_toArray, List.set_cons_zero, List.set_cons_succ]
        refine wpAnyH_ready (rs := [5]) (by kernel_rfl) (by simp) ?_
        refine AllReadyH.cons rfl (fun K hK => ?_) AllReadyH.nil
        go_simp
        (with_reducible refine (text_ok _ (orderB r.e.o) (by have := hgo.out; omega)).mono ?_); rintro e2 w8 ⟨A8, c8, rfl, ho8, hf8, hm8⟩; dsimp only
        have hM8 := Lib.hid (hM7.out.trans hm8)
        replace z7 := Lib.hid (z7.out.mod0 hm8)
        have htl := txtB_len (orderB r.e.o)
        have z8 := Lib.hid (ByAt.of_ow ho8 (by have := hgo.out; omega))
        clear hm8 hf8 ho8
        go_wp2_with fail
        refine hK.out _ _ (hM8.out) (fun hHeld => ?_)
        clear hK K
        try simp only [Act.put, List.getElem_toArray, List.getElem_cons_zero, List.getElem_cons_succ, List.setIfInBounds_toArray, List.set_cons_zero, List.set_cons_succ]
        have z5 := Lib.hid ((zb6.out.own.at_).mod0 hM8.out)
        have hbs : Hid (BsAt (w8.alloc (.cells #[.slice A5 n5 c5, .slice A7 (nb 0).length c7, .slice A8 (txtB (orderB r.e.o)).length c8] 22)) (some ⟨w8.heap.size, 0, none⟩) 3 [⟨A5, n5, c5⟩, ⟨A7, (nb 0).length, c7⟩, ⟨A8, (txtB (orderB r.e.o)).length, c8⟩] [headB r, nb 0, txtB (orderB r.e.o)]) :=
          Lib.hid (bsAt_all w8 22 [⟨A5, n5, c5⟩, ⟨A7, (nb 0).length, c7⟩, ⟨A8, (txtB (orderB r.e.o)).length, c8⟩] [headB r, nb 0, txtB (orderB r.e.o)] ⟨z5.out, z7.out, z8.out, trivial⟩)
        refine wpAnyH_ready (rs := [6]) (by kernel_rfl) (by simp) ?_
        refine AllReadyH.cons rfl (fun K hK => ?_) AllReadyH.nil
        go_simp
        refine hK.out _ _ (hM8.out.alloc _) (fun hHeld => ?_)
        clear hK K
        try simp only [Act.put, List.getElem_toArray, List.getElem_cons_zero, List.getElem_cons_succ, List.setIfInBounds_toArray, List.set_cons_zero, List.set_cons_succ]
        have hfl : [headB r, nb 0, txtB (orderB r.e.o)].flatten = headB r ++ (nb 0 ++ txtB (orderB r.e.o)) := by simp
        have kc := concatB_ok _ _ 3 3 _ _ hbs.out (by omega)
        rw [hfl] at kc
        have hle : (headB r ++ (nb 0 ++ txtB (orderB r.e.o))).length ≤ 600 := by
          have := nb_len 0
          have := hgo.out
          have := hg5.out
          simp only [List.length_append]; omega
        obtain ⟨lc, hlc⟩ : ∃ lc, lc = headB r ++ (nb 0 ++ txtB (orderB r.e.o)) := ⟨_, rfl⟩
        rw [← hlc] at kc hle
        replace hlc := Lib.hid hlc
        refine wpAnyH_ready (rs := [7]) (by kernel_rfl) (by simp) ?_
        refine AllReadyH.cons rfl (fun K hK => ?_) AllReadyH.nil
        go_simp
        (with_reducible refine kc.mono ?_); rintro e2 W ⟨Ab, cb, rfl, ho9, hf9, hm9⟩; dsimp only
        have hM9 := Lib.hid ((hM8.out.alloc _).trans hm9)
        have zb := Lib.hid (BufSt.new zb6.out.mod zb6.out.blk ho9 (hf9.later (hM8.out.alloc _).size) hM9.out (by omega))
        clear hm9 ho9 hf9 hbs kc hfl z5 z7 z8 htl
        go_wp2_with fail
        refine hK.out _ _ (hM9.out) (fun hHeld => ?_)
        clear hK K
        try simp only [Act.put, List.getElem_toArray, List.getElem_cons_zero, List.getElem_cons_succ, List.setIfInBounds_toArray, List.set_cons_zero, List.set_cons_succ]
        refine wpAnyH_take (i := 8) (v := ?_) rfl (by kernel_rfl) (by kernel_rfl) (by kernel_rfl) (fun _ _ _ h => h) (Or.inl ⟨by rfl, ?_⟩) (by assumption) ?_
        rotate_left
        · intro W hSw; (try dsimp only at hSw); go_simp; (try with_reducible rfl)
        try simp only [Act.put, List.getElem_toArray, List.getElem_cons_zero, List.getElem_cons_succ, List.setIfInBounds_toArray, List.set_cons_zero, List.set_cons_succ]
        refine wpAnyH_done (by kernel_rfl) ?_ _
        generalize hnb : lc.length = nb' at *
        rw [hlc.out] at zb
        replace hnb := Lib.hid hnb
        clear hHeld hM0 hM7 hM8 hM9 kC6 zo6 zb6
        -- what it waits for
        have ss : W.cell? ⟨q, 14, none⟩ = some (.slice D.a D.n D.c) := zb.out.blk.cell_ rfl
        have kn := lnums_row W 3 W.heap.size rfl [(D.n : Int)] 1 rfl (by omega) (fun x hx => by simp at hx; subst hx; exact in64_mk (by omega) (by omega)) #[.int .i64 (D.n : Int)] rfl
        have hfl6 : [(D.n : Int)].flatMap nb = nb (D.n : Int) := by simp
        rw [hfl6] at kn
        clear hfl6
        go_wp2_with fail
        refine kn.mono ?_; rintro e w6 ⟨A6, c6, rfl, ho6, hf6, hm6⟩; dsimp only
        have zb6 := Lib.hid (zb.out.mod0 (((Mod.refl none_ W).alloc (.cells #[.int .i64 (D.n : Int)] 3)).trans hm6))
        have hl6 := nb_len (D.n : Int)
        generalize hg6 : (nb (D.n : Int)).length = n6 at *
        clear hm6 kn hf6 ss zb
        replace ho6 := Lib.hid ho6
        replace hg6 := Lib.hid hg6
        go_wp2_with (at_builtin; go_loud (refine app8 rfl (.tmp 57) (.tmp 63) rfl rfl zb6.out.own.ow rfl ho6.out.rd (by omega) ?_; intro A7 c7 w7 ho7 hm7 hA7; have zb7 := Lib.hid (zb6.out.app ho7 hm7 hA7 (by omega)); have s7 := zb7.out.blk.cell_ (i := 14) (v := .slice D.a D.n D.c) rfl; clear ho7 hm7 hA7))
        clear s7
        go_loopw [5, 69] (fun v x wr => ∃ j : Nat, x = .int .i64 j ∧ j ≤ D.n ∧ ∃ A n c, v = .slice A n c ∧ n ≤ 620 + j * 20 ∧ BufSt w 35 q #[.int .i64 r.bal, .int .i64 r.st, .int .i64 r.by_, .int .i64 r.e.o.c, .int .i64 r.e.o.s, .int .i64 r.e.o.k, .string (txt r.e.o.acct), .string (txt r.e.o.peer), .int .i64 r.e.o.sum, .slice L.a L.n L.c, .int .i64 r.e.o.per, .int .i64 r.e.o.hold, .string (txt r.e.o.note), .bool r.e.none, .slice D.a D.n D.c] wr A n c (((headB r ++ (nb 0 ++ txtB (orderB r.e.o))) ++ nb (D.n : Int)) ++ (r.e.deps.take j).flatMap isB)) (fun _ x _ => D.n - (intOf x).toNat)
        case atStart => exact ⟨0, rfl, by omega, A7, _, c7, rfl, by omega, by simpa using zb7.out⟩
        case round =>
          obtain ⟨j, rfl, hj, A, n, c, rfl, hnj, zb⟩ := hrel
          by_cases hlt : j < D.n
          · obtain ⟨b, p, d, hDa, hdm, hdj, x1, x2⟩ := rdp_get (hrdD.out.mod0 zb.mod) hlt
            have hdi := hdk.out d hdm
            rw [hDa]
            have kn := lnums_row (wr.alloc (.cells #[.int .i64 d.r, .int .i64 d.n] 25)) 3 (wr.heap.size + 1) (by simp) [d.r, d.n] 2 rfl (by omega) (fun x hx => by simp at hx; rcases hx with rfl | rfl <;> exact in64_mk (by have := hdi.1; have := hdi.2; omega) (by have := hdi.1; have := hdi.2; omega)) #[.int .i64 d.r, .int .i64 d.n] rfl
            have hfl6 : [d.r, d.n].flatMap nb = isB d := by simp [isB]
            rw [hfl6] at kn
            clear hfl6
            replace zb := Lib.hid zb
            replace hdm := Lib.hid hdm
            replace hdj := Lib.hid hdj
            replace hdi := Lib.hid hdi
            go_wp2_with fail
            refine kn.mono ?_; rintro e w8 ⟨A8, c8, rfl, ho8, hf8, hm8⟩; dsimp only
            have zb8 := Lib.hid (zb.out.mod0 ((((Mod.refl none_ wr).alloc (.cells #[.int .i64 d.r, .int .i64 d.n] 25)).alloc (.cells #[.int .i64 d.r, .int .i64 d.n] 3)).trans hm8))
            have hl8 : (isB d).length ≤ 20 := by have := nb_len d.r; have := nb_len d.n; unfold isB; rw [List.length_append]; omega
            generalize hg8 : (isB d).length = n8 at *
            clear hm8 kn hf8 zb
            replace ho8 := Lib.hid ho8
            replace hg8 := Lib.hid hg8
            go_wp2_with (at_builtin; go_loud (refine app8 rfl (.tmp 73) (.tmp 79) rfl rfl zb8.out.own.ow rfl ho8.out.rd (by omega) ?_; intro A9 c9 w9 ho9 hm9 hA9; have zb9 := Lib.hid (zb8.out.app ho9 hm9 hA9 (by omega)); clear ho9 hm9 hA9))
            go_roundw
            case rel =>
              refine ⟨j + 1, by go_num, by omega, A9, _, c9, rfl, by omega, ?_⟩
              have e1 : (r.e.deps.take (j + 1)).flatMap isB = (r.e.deps.take j).flatMap isB ++ isB d := by rw [List.take_add_one, hdj.out]; simp
              rw [e1, ← List.append_assoc]
              have h9 := zb9.out
              rw [hDa] at h9
              exact h9
            case measure => simp [intOf]; omega
          · have hjl : j = D.n := by omega
            subst hjl
            rw [List.take_of_length_le (by have := hdl.out; omega)] at zb
            have hlist : ((headB r ++ (nb 0 ++ txtB (orderB r.e.o))) ++ nb (D.n : Int)) ++ r.e.deps.flatMap isB = recB r := by rw [hrec.out, ← hdl.out]; simp
            rw [hlist] at zb
            have hlen := zb.len
            subst hlen
            clear hlist
            replace zb := Lib.hid zb
            generalize hlo : recB r = lo at *
            replace hlo := Lib.hid hlo
            go_wp2_with fail
            go_ret2
            exact .inl ⟨hr.out, A, c, rfl, zb.out.own.ow, zb.out.own.fr, zb.out.mod⟩
end Go.Proofs.YtdnbclhidpkpgaaGreat
