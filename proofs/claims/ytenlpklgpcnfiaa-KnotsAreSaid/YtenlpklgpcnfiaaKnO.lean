/-
  knots.Open: the places that are known, and all that they reach.
-/
import Derived.Test.YtenlpklgpcnfiaaKnRe
namespace Go.Proofs.Ytenlpklgpcnfiaa
set_option linter.unusedVariables false
open Go.RowKit
def tvs (l : List Bool) : List Value := l.map (.bool ·)
theorem tvs_get {l : List Bool} {k : Nat} (h : k < l.length) : (tvs l)[k]? = some (.bool l[k]) := by simp [tvs, h]
def isK (known : List Bool) (k : Nat) : Bool := known.getD k false
theorem isK_out {known : List Bool} {k : Nat} (h : known.length ≤ k) : isK known k = false := by simp [isK, List.getD, List.getElem?_eq_none h]
theorem isK_in {known : List Bool} {k : Nat} (h : k < known.length) : isK known k = known[k] := by simp [isK, List.getD, h]
/-- what the closure sees -/
structure Dark (w : World) (bx : Nat) (KA : Option Addr) (kn kc : Nat) (known : List Bool) : Prop where
  box : Blk w bx 23 #[.slice KA kn kc]
  rd : Rd w 1 KA kn (tvs known)
theorem Dark.len {w : World} {bx : Nat} {KA : Option Addr} {kn kc : Nat} {known : List Bool} (h : Dark w bx KA kn kc known) : known.length = kn := by have := h.rd.1; simp [tvs] at this; exact this
theorem Dark.mod0 {w w' : World} {bx : Nat} {KA : Option Addr} {kn kc : Nat} {known : List Bool} (h : Dark w bx KA kn kc known) (hm : Mod none_ w w') : Dark w' bx KA kn kc known := ⟨h.box.mod hm (fun h => h), Rd.mod0 h.rd hm⟩
set_option maxRecDepth 100000 in
theorem dark_ok (w : World) (bx : Nat) (KA : Option Addr) (kn kc : Nat) (known : List Bool) (h : Dark w bx KA kn kc known) (k : Nat) (hkn : kn ≤ 140737488355328) :
    Calls Try.prog 20 #[.int .i64 (k : Int), .pointer (some ⟨bx, 0, none⟩)] w fun e w' => e = .returned (.bool (!isK known k)) ∧ w = w' := by
  have x0 := h.box.cell_ (i := 0) rfl
  have hl := h.len
  by_cases hk : k < kn
  · obtain ⟨b, o, hA, hc⟩ := Rd.form h.rd (show 0 < kn by omega) (by omega)
    subst hA
    have hkl : k < known.length := by omega
    have x1 := hc k _ (tvs_get hkl)
    rw [isK_in hkl]
    generalize known[k] = v at *
    have hd : ¬ ((kn : Int) ≤ (k : Int)) := by omega
    clear hc
    replace h := Lib.hid h
    replace hl := Lib.hid hl
    cases v with
    | true =>
      go_enter Try.func20, Try.ntmps20
      go_wp2_with fail
      go_ret
      exact ⟨rfl, rfl⟩
    | false =>
      go_enter Try.func20, Try.ntmps20
      go_wp2_with fail
      go_ret
      exact ⟨rfl, rfl⟩
  · rw [isK_out (by omega)]
    have hd : (kn : Int) ≤ (k : Int) := by omega
    replace h := Lib.hid h
    replace hl := Lib.hid hl
    go_enter Try.func20, Try.ntmps20
    go_wp2_with fail
    go_ret
    exact ⟨rfl, rfl⟩
set_option maxRecDepth 100000 in
theorem index_ok (w : World) (bx : Nat) (KA : Option Addr) (kn kc : Nat) (known : List Bool) (h : Dark w bx KA kn kc known) (hkn : kn ≤ 140737488355328) (B : Option Addr) (n c : Nat) (L : List Nat) (hL : RdI w B n (zs L)) (hn : n ≤ 1000000) :
    Calls Try.prog 24 #[.slice B n c, .func (Fn.func 20) #[] #[.pointer (some ⟨bx, 0, none⟩)]] w fun e w' => ∃ r : Int, e = .returned (.int .i64 r) ∧ (0 ≤ r ↔ ∃ k ∈ L, isK known k = false) ∧ w = w' := by
  have kd := Lib.hid (fun k => dark_ok w bx KA kn kc known h k hkn)
  have hl := hL.len
  rw [zs_len] at hl
  replace h := Lib.hid h
  replace hL := Lib.hid hL
  replace hl := Lib.hid hl
  go_enter Try.func24, Try.ntmps24
  go_wp2_with fail
  go_loopg [8] n (fun k v wr => ∃ i, v = .int .i64 (i : Nat) ∧ i + k = n ∧ (∀ x ∈ L.take i, isK known x = true) ∧ w = wr)
  case atStart => exact ⟨0, rfl, by omega, fun x hx => (by simp at hx), rfl⟩
  case round =>
    obtain ⟨i, rfl, hik, hall, rfl⟩ := hrel
    by_cases hlt : i < n
    · obtain ⟨b, o, hB, hxl, hx⟩ := rdi_get hL.out hlt
      subst hB
      have hiL : i < L.length := by rw [hl.out]; exact hlt
      have hv : (zs L)[i] = ((L[i] : Nat) : Int) := by simp [zs]
      rw [hv] at hx
      have htk : L.take (i + 1) = L.take i ++ [L[i]] := by rw [List.take_succ_eq_append_getElem hiL]
      have hmem : L[i] ∈ L := List.getElem_mem hiL
      generalize L[i] = x at *
      have kx := Lib.hid (kd.out x)
      replace hall := Lib.hid hall
      replace htk := Lib.hid htk
      replace hmem := Lib.hid hmem
      replace hv := Lib.hid hv
      cases hkx : isK known x with
      | true =>
        rw [hkx] at kx
        have hnx : Hid (∀ y ∈ L.take (i + 1), isK known y = true) := Lib.hid (fun y hy => by
          rw [htk.out, List.mem_append] at hy
          rcases hy with hy | hy
          · exact hall.out y hy
          · simp at hy; rw [hy]; exact hkx)
        go_wp2_with fail
        with_reducible refine kx.out.mono ?_
        rintro e w1 ⟨rfl, rfl⟩
        dsimp only [Bool.not_true]
        go_wp2_with fail
        go_roundg (gk - 1)
        case measure => omega
        case rel => exact ⟨i + 1, by go_num, by omega, hnx.out, rfl⟩
      | false =>
        rw [hkx] at kx
        go_wp2_with fail
        with_reducible refine kx.out.mono ?_
        rintro e w1 ⟨rfl, rfl⟩
        dsimp only [Bool.not_false]
        go_wp2_with fail
        go_ret
        exact ⟨i, rfl, ⟨fun _ => ⟨x, hmem.out, hkx⟩, fun _ => by omega⟩, rfl⟩
    · obtain rfl : i = n := by omega
      rw [List.take_of_length_le (by rw [hl.out]; exact Nat.le_refl _)] at hall
      replace hall := Lib.hid hall
      go_wp2_with fail
      go_ret
      refine ⟨-1, rfl, ⟨fun h => by omega, fun ⟨k, hk, h1⟩ => ?_⟩, rfl⟩
      rw [hall.out k hk] at h1
      cases h1
set_option maxRecDepth 100000 in
theorem contains_ok (w : World) (bx : Nat) (KA : Option Addr) (kn kc : Nat) (known : List Bool) (h : Dark w bx KA kn kc known) (hkn : kn ≤ 140737488355328) (B : Option Addr) (n c : Nat) (L : List Nat) (hL : RdI w B n (zs L)) (hn : n ≤ 1000000) :
    Calls Try.prog 21 #[.slice B n c, .func (Fn.func 20) #[] #[.pointer (some ⟨bx, 0, none⟩)]] w fun e w' => e = .returned (.bool (!L.all (isK known))) ∧ w = w' := by
  have ki := Lib.hid (index_ok w bx KA kn kc known h hkn B n c L hL hn)
  replace h := Lib.hid h
  replace hL := Lib.hid hL
  go_enter Try.func21, Try.ntmps21
  go_wp2_with fail
  with_reducible refine ki.out.mono ?_
  rintro e w1 ⟨r, rfl, hr, rfl⟩
  dsimp only
  replace hr := Lib.hid hr
  go_wp2_with fail
  go_ret
  refine ⟨?_, rfl⟩
  have : decide (0 ≤ r) = !L.all (isK known) := by
    rw [Bool.eq_iff_iff, decide_eq_true_iff, hr.out]
    simp
  rw [← this]
  rfl
open Classical in
noncomputable def openB (g : List (List Int)) (known : List Bool) (i : Nat) : Bool := isK known i && decide (∀ k, TC g i k → isK known k = true)
noncomputable def openL (g : List (List Int)) (known : List Bool) : List Nat := pickI (openB g known) g.length
open Classical in
theorem reach_all {g : List (List Int)} {known : List Bool} {i : Nat} : (reachL g i).all (isK known) = decide (∀ k, TC g i k → isK known k = true) := by
  rw [Bool.eq_iff_iff, decide_eq_true_iff, List.all_eq_true]
  exact ⟨fun h k hk => h k (mem_reachL.2 hk), fun h k hk => h k (mem_reachL.1 hk)⟩
theorem openB_eq {g : List (List Int)} {known : List Bool} {i : Nat} : openB g known i = (isK known i && (reachL g i).all (isK known)) := by
  unfold openB
  rw [reach_all]
set_option maxRecDepth 100000 in
set_option maxHeartbeats 4000000 in
theorem open_ok (w : World) (A : Option Addr) (n c : Nat) (ss : List SV) (g : List (List Int)) (hg : RdG w A n ss g) (hn : n ≤ 1000000) (KA : Option Addr) (kn kc : Nat) (known : List Bool) (hk : Rd w 1 KA kn (tvs known)) (hkn : kn ≤ 140737488355328) :
    Calls Try.prog 14 #[.slice A n c, .slice KA kn kc] w (ReachPost (openL g known) w) := by
  have hgl := hg.len
  have hD0 : Dark (w.alloc (.cells #[.slice KA kn kc] 23)) w.heap.size KA kn kc known := ⟨Blk.new w _ _, Rd.mod0 hk ((Mod.refl none_ w).alloc _)⟩
  have kd := Lib.hid (fun W (h : Dark W w.heap.size KA kn kc known) k => dark_ok W w.heap.size KA kn kc known h k hkn)
  have kc' := Lib.hid (fun W (h : Dark W w.heap.size KA kn kc known) B n' c L (hL : RdI W B n' (zs L)) (hn : n' ≤ 1000000) => contains_ok W w.heap.size KA kn kc known h hkn B n' c L hL hn)
  have kr := Lib.hid (fun W (hm : Mod none_ w W) f (hf : f < n) => reach_ok W A n c ss g (hg.mod0 hm) hn f hf)
  have hmf : ∀ (fn : Fn) (first cap : Array Value) (w : World), (Instr.makeFunc fn first cap).run Try.prog w = .ok (.func fn first cap) w := fun _ _ _ _ => rfl
  replace hg := Lib.hid hg
  replace hk := Lib.hid hk
  replace hD0 := Lib.hid hD0
  replace hgl := Lib.hid hgl
  go_enter Try.func14, Try.ntmps14
  go_wp2_with fail
  go_loopg [6, 11] n (fun k v6 v wr => ∃ i B c', v = .int .i64 (i : Nat) ∧ i + k = n ∧ v6 = .slice B (pickI (openB g known) i).length c' ∧ OwZ wr B (pickI (openB g known) i).length c' (zs (pickI (openB g known) i)) ∧ Fresh w B ∧ Mod none_ w wr ∧ Dark wr w.heap.size KA kn kc known)
  case atStart => exact ⟨0, none, 0, rfl, by omega, rfl, Ow.nil _ _ _, fun a ha => (by cases ha), (Mod.refl none_ w).alloc _, hD0.out⟩
  case round =>
    obtain ⟨i, B, c', rfl, hik, rfl, ho, hf, hm, hd⟩ := hrel
    have hpl := pickI_len (openB g known) i
    have hpx := pickI_succ (openB g known) i
    by_cases hlt : i < n
    · have kdi := Lib.hid (kd.out wr hd i)
      have kri := Lib.hid (kr.out wr hm i hlt)
      have hob : openB g known i = (isK known i && (reachL g i).all (isK known)) := openB_eq
      generalize hpn : (pickI (openB g known) i).length = pn at *
      have hrl : (reachL g i).length ≤ n := by
        unfold reachL
        have := List.length_filter_le (fun k => @decide (TC g i k) (Classical.propDecidable _)) (List.range g.length)
        rw [List.length_range] at this
        have e := hgl.out
        omega
      cases hki : isK known i with
      | false =>
        rw [hki] at kdi hob
        rw [if_neg (by rw [hob]; simp)] at hpx
        replace ho := Lib.hid ho
        replace hf := Lib.hid hf
        replace hm := Lib.hid hm
        replace hd := Lib.hid hd
        replace hpx := Lib.hid hpx
        replace hpn := Lib.hid hpn
        replace hob := Lib.hid hob
        replace hrl := Lib.hid hrl
        go_wp2_with fail
        with_reducible refine kdi.out.mono ?_
        rintro e w1 ⟨rfl, rfl⟩
        dsimp only [Bool.not_false]
        go_wp2_with fail
        go_roundg (gk - 1)
        case measure => omega
        case rel => exact ⟨i + 1, B, c', by go_num, by omega, by rw [hpx.out, hpn.out], by rw [hpx.out, hpn.out]; exact ho.out, hf.out, hm.out, hd.out⟩
      | true =>
        rw [hki] at kdi hob
        generalize hrg : reachL g i = L at *
        replace ho := Lib.hid ho
        replace hf := Lib.hid hf
        replace hm := Lib.hid hm
        replace hd := Lib.hid hd
        replace hpx := Lib.hid hpx
        replace hpn := Lib.hid hpn
        replace hob := Lib.hid hob
        go_wp2_with fail
        with_reducible refine kdi.out.mono ?_
        rintro e w1 ⟨rfl, rfl⟩
        dsimp only [Bool.not_true]
        go_wp2_with fail
        with_reducible refine kri.out.mono ?_
        rintro e w2 ⟨B2, c2, rfl, ho2, hf2, hm2⟩
        dsimp only
        have kci := Lib.hid (kc'.out w2 (hd.out.mod0 hm2) B2 L.length c2 L (Ow.rd ho2) (by omega))
        replace ho2 := Lib.hid ho2
        replace hf2 := Lib.hid hf2
        replace hm2 := Lib.hid hm2
        cases hall : L.all (isK known) with
        | true =>
          rw [hall] at kci
          go_wp2_with fail
          with_reducible refine kci.out.mono ?_
          rintro e w3 ⟨rfl, rfl⟩
          dsimp only [Bool.not_true]
          go_wp2_with (at_builtin; go_loud (refine appZ rfl (.tmp 26) (.tmp 28) rfl rfl (Ow.mod0 ho.out (hm2.out.alloc _)) rfl (rdi_one _ _ (i : Int)) (by omega) ?_; intro B5 c5 w5 ho5 hm5 hB5; replace ho5 := Lib.hid ho5; replace hm5 := Lib.hid hm5; replace hB5 := Lib.hid hB5))
          go_roundg (gk - 1)
          case measure => omega
          case rel =>
            have hpx' := hpx.out
            rw [if_pos (by rw [hob.out, hall]; rfl)] at hpx'
            have hlen : (pickI (openB g known) (i + 1)).length = pn + 1 := by rw [hpx', List.length_append, hpn.out]; rfl
            have hm3 := (hm.out.trans hm2.out).alloc (.cells #[.int .i64 (i : Int)] 3)
            have hd3 := (hd.out.mod0 hm2.out).mod0 ((Mod.refl none_ w2).alloc (.cells #[.int .i64 (i : Int)] 3))
            have hB3 : OwZ (w2.alloc (.cells #[.int .i64 (i : Int)] 3)) B pn c' (zs (pickI (openB g known) i)) := Ow.mod0 ho.out (hm2.out.alloc _)
            refine ⟨i + 1, B5, c5, by go_num, by omega, by rw [hlen], ?_, Fresh.app hf.out hm3.size hB5.out, hm3.app hf.out hm5.out, ⟨hd3.box.mod hm5.out (Ow.ne_blk hB3 hd3.box (by decide)), ?_⟩⟩
            · rw [hlen, hpx', zs_app]; exact ho5.out
            · exact Rd.mod0 hk.out (hm3.app hf.out hm5.out)
        | false =>
          rw [hall] at kci
          go_wp2_with fail
          with_reducible refine kci.out.mono ?_
          rintro e w3 ⟨rfl, rfl⟩
          dsimp only [Bool.not_false]
          go_wp2_with fail
          go_roundg (gk - 1)
          case measure => omega
          case rel =>
            have hpx' := hpx.out
            rw [if_neg (by rw [hob.out, hall]; simp)] at hpx'
            exact ⟨i + 1, B, c', by go_num, by omega, by rw [hpx', hpn.out], by rw [hpx', hpn.out]; exact Ow.mod0 ho.out hm2.out, hf.out, hm.out.trans hm2.out, hd.out.mod0 hm2.out⟩
    · obtain rfl : i = n := by omega
      have hpe : pickI (openB g known) i = openL g known := by unfold openL; rw [hgl.out]
      rw [hpe] at ho ⊢
      replace ho := Lib.hid ho
      replace hf := Lib.hid hf
      replace hm := Lib.hid hm
      replace hd := Lib.hid hd
      replace hpe := Lib.hid hpe
      go_wp2_with fail
      go_ret
      exact ⟨B, c', rfl, ho.out, hf.out, hm.out⟩
end Go.Proofs.Ytenlpklgpcnfiaa
