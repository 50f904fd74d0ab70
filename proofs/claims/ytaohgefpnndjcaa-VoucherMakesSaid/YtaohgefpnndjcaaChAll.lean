/-
  The contracts of chart's All and Copy.
-/
import Derived.Test.YtaohgefpnndjcaaChTurn
import Derived.Test.YtaohgefpnndjcaaKeys
import Derived.Test.YtaohgefpnndjcaaApp
namespace Go.Proofs.Ytaohgefpnndjcaa
set_option linter.unusedVariables false
open Go.RowKit
def acs (C : List Ac) : List Value := C.flatMap fun a => [.string (txt a.n), .int .i64 a.h, .int .i64 a.s, .int .i64 a.l]
theorem acs_length (C : List Ac) : (acs C).length = C.length * 4 := flat_length _ 4 (fun _ => rfl) C
theorem acs_append (C D : List Ac) : acs (C ++ D) = acs C ++ acs D := by unfold acs; rw [List.flatMap_append]
theorem acs_one (C : List Ac) : ∀ u ∈ acs C, u.oneCell' = true := by
  intro u hu
  unfold acs at hu
  rw [List.mem_flatMap] at hu
  obtain ⟨a, _, ha⟩ := hu
  simp only [List.mem_cons, List.not_mem_nil, or_false] at ha
  rcases ha with rfl | rfl | rfl | rfl <;> rfl
def RdA (w : World) (A : Option Addr) (n : Nat) (C : List Ac) : Prop := Rd w 4 A n (acs C)
def OwA (w : World) (A : Option Addr) (n c : Nat) (C : List Ac) : Prop := Ow w 46 4 A n c (acs C)
theorem RdA.len {w : World} {A : Option Addr} {n : Nat} {C : List Ac} (h : RdA w A n C) : C.length = n := by have := h.1; rw [acs_length] at this; omega
theorem acinfo : (Try.prog.info? 46).map (fun i => (i.zero, i.size, i.bytes)) = some (some zeroA, 4, 40) := by kernel_rfl
theorem appA {w : World} {ops : Array Oper} {rest : List Oper} {o : Oper} {a : Act} {Q : Exit → Act → World → Prop} (hgd : o.guard = none) (s x : Operand)
    (ho : o.op = .call { callee := .builtin .append, args := #[s, x], argTypes := #[22, 22] })
    {A : Option Addr} {n c : Nat} {xs : List Ac} (hs : a.eval s = .slice A n c) (hown : OwA w A n c xs)
    {S : Option Addr} {m d : Nat} {news : List Ac} (hx : a.eval x = .slice S m d) (hr : RdA w S m news) (hb : (n + m) * 40 ≤ 140737488355328)
    (h : ∀ A' c' w', OwA w' A' (n + m) c' (xs ++ news) → Mod (fp A) w w' → (A' = A ∨ A' = some ⟨w.heap.size, 0, none⟩) → wpList Try.prog ops Q rest (a.put o.dst (.slice A' (n + m) c')) w') : wpList Try.prog ops Q (o :: rest) a w := by
  obtain ⟨i0, hi, hz0, hz1, hz2⟩ := info_parts acinfo
  refine wpList_append_ow hgd s x 22 ho 46 i0 _ 4 40 Try.underlying22 hi hz0 hz1 hz2 rfl (by omega) A n c (acs xs) hs hown S m d (acs news) hx hr (acs_one _) (by omega) (by omega) ?_
  intro A' c' w' h1
  rw [← acs_append] at h1
  exact h A' c' w' h1
theorem rda_one (w : World) (e : TypeId) (a : Ac) : RdA (w.alloc (.cells (acCells a) e)) (some ⟨w.heap.size, 0, none⟩) 1 [a] :=
  rdn w e 4 1 w.heap.size (acCells a) (0, 0) rfl rfl
theorem get_at_ {C : List Ac} (h : SortedC C) : ∀ {j : Nat} {a : Ac}, C[j]? = some a → getC C a.n = some a := by
  induction C with
  | nil => intro j a h; simp at h
  | cons y l ih =>
    intro j a hj
    obtain ⟨h1, h2⟩ := List.pairwise_cons.1 h
    cases j with
    | zero =>
      simp only [List.getElem?_cons_zero, Option.some.injEq] at hj
      subst hj
      simp [getC]
    | succ j =>
      simp only [List.getElem?_cons_succ] at hj
      have hm : a ∈ l := List.mem_of_getElem? hj
      have hne : y.n ≠ a.n := bb_ne (h1 a hm)
      have := ih h2 hj
      unfold getC at this ⊢
      rw [List.find?_cons_of_neg (by simpa using hne)]
      exact this
def AllRel (w : World) (C : List Ac) (j : Nat) (v : Value) (wr : World) : Prop := ∃ A c, v = .slice A j c ∧ OwA wr A j c (C.take j) ∧ Fresh w A ∧ Mod none_ w wr
def AllPost (C : List Ac) (w : World) (e : Ending) (w' : World) : Prop := ∃ A c, e = .returned (.slice A C.length c) ∧ OwA w' A C.length c C ∧ Fresh w A ∧ Mod none_ w w'
theorem nvs_get {l : List (List UInt8)} {k : Nat} (h : k < l.length) : (nvs l)[k]? = some (.string (txt l[k])) := by
  unfold nvs
  rw [List.getElem?_map, List.getElem?_eq_getElem h]; rfl
theorem txt_size' (l : List UInt8) : (txt l).size = l.length := by simp [txt, ByteArray.size]
theorem names_eq (C : List Ac) : (ents C).map (·.1) = C.map (·.n) := by unfold ents; rw [List.map_map]; rfl
set_option maxRecDepth 100000 in
set_option maxHeartbeats 2000000 in
theorem all_ok (w : World) (p b : Nat) (C : List Ac) (hc : ChAt w p b C) (hl : C.length ≤ 1000) (hn : ∀ a ∈ C, a.n.length ≤ 8) : Calls Try.prog 15 #[.pointer (some ⟨p, 0, none⟩)] w (AllPost C w) := by
  have hcell : w.cell? ⟨p, 0, none⟩ = some (.map (some b)) := hc.1.cell_ rfl
  have hle : (ents C).length = C.length := by unfold ents; rw [List.length_map]
  have ck := Lib.hid (keys_ok (some b) w)
  have cs := Lib.hid (sorted_ok w b (ents C) hc.2.1 (by omega))
  rw [hle] at cs
  have hp := hc.1.lt
  replace hc := Lib.hid hc
  replace hn := Lib.hid hn
  replace hle := Lib.hid hle
  go_enter Try.func15, Try.ntmps15
  go_wp2_with fail
  refine ck.out.mono ?_
  rintro e w1 ⟨rfl, rfl⟩
  dsimp only
  go_wp2_with fail
  refine cs.out.mono ?_
  rintro e w1 ⟨A, c, rfl, hr, hm⟩
  dsimp only
  replace hr := Lib.hid hr
  replace hm := Lib.hid hm
  go_wp2_with fail
  go_loopw [3, 15] (fun v x wr => ∃ j : Nat, x = .int .i64 j ∧ j ≤ C.length ∧ AllRel w1 C j v wr) (fun _ x _ => C.length - (intOf x).toNat)
  case atStart => exact ⟨0, rfl, by omega, none, 0, rfl, Ow.nil _ _ _, (fun _ h => by cases h), Mod.refl _ _⟩
  case round =>
    obtain ⟨j, rfl, hj, B, d, rfl, ho, hf, hmr⟩ := hrel
    by_cases hlt : j < C.length
    · obtain ⟨g, o, e, hcl⟩ := Rd.form (hr.out.mod0 hmr) (show 0 < C.length by omega) (by omega)
      subst e
      have hch := (hc.out.mod0 hm.out).mod0 hmr
      have hcellj := hcl j (.string (txt C[j].n)) (by
        rw [names_eq, nvs_get (by rw [List.length_map]; exact hlt), List.getElem_map])
      clear hcl
      have hpc : wr.cell? ⟨p, 0, none⟩ = some (.map (some b)) := hch.1.cell_ rfl
      have hpl := hch.1.lt
      have hget : getC C C[j].n = some C[j] := get_at_ hch.sorted (List.getElem?_eq_getElem hlt)
      have hfe := find_ents C C[j].n
      rw [hget] at hfe
      have hsz : (txt C[j].n).size ≤ maxLen := by rw [txt_size']; have := hn.out _ (List.getElem_mem hlt); unfold maxLen; omega
      have hnx : C.take j ++ [C[j]] = C.take (j+1) := by rw [List.take_succ_eq_append_getElem hlt]
      generalize C[j] = a at *
      replace ho := Lib.hid ho
      replace hf := Lib.hid hf
      replace hmr := Lib.hid hmr
      replace hch := Lib.hid hch
      replace hget := Lib.hid hget
      replace hfe := Lib.hid hfe
      replace hsz := Lib.hid hsz
      replace hnx := Lib.hid hnx
      go_wp2_with (first
        | (refine map_look _ rfl (.tmp 23) (.tmp 24) _ rfl 9 46 Try.underlying67 Try.underlying9 (zeroA_run _) b _ rfl hch.out.2.1 (txt a.n) hsz.out rfl ?_; rw [show (txt a.n).data.toList = a.n from rfl, hfe.out]; simp only [Option.map_some, Option.getD_some, acV])
        | (at_builtin; refine appA rfl (.tmp 19) (.tmp 26) rfl rfl (Ow.mod0 ho.out ((Mod.refl none_ _).alloc _)) rfl (rda_one _ _ a) (by omega) ?_; intro A' c' w' ho' hm' hA'; replace ho' := Lib.hid ho'; replace hm' := Lib.hid hm'; replace hA' := Lib.hid hA'))
      go_roundw
      case rel =>
        refine ⟨j + 1, by go_num, by omega, A', c', rfl, ?_, Fresh.app hf.out (hmr.out.alloc _).size hA'.out, (hmr.out.alloc _).app hf.out hm'.out⟩
        rw [← hnx.out]; exact ho'.out
      case measure => simp [intOf]; omega
    · have hjn : j = C.length := by omega
      subst hjn
      rw [List.take_length] at ho
      replace ho := Lib.hid ho
      replace hf := Lib.hid hf
      replace hmr := Lib.hid hmr
      go_wp2_with fail
      go_ret
      exact ⟨B, d, rfl, ho.out, hf.out.later hm.out.size, hm.out.then hmr.out (fun _ _ h => h)⟩
def CopyPost (C : List Ac) (w : World) (e : Ending) (w' : World) : Prop := ∃ p b, e = .returned (.pointer (some ⟨p, 0, none⟩)) ∧ ChAt w' p b C ∧ Mod none_ w w' ∧ w.heap.size ≤ p ∧ w.heap.size ≤ b
set_option maxRecDepth 100000 in
theorem copy_ok (w : World) (p b : Nat) (C : List Ac) (hc : ChAt w p b C) : Calls Try.prog 18 #[.pointer (some ⟨p, 0, none⟩)] w (CopyPost C w) := by
  have hcell : w.cell? ⟨p, 0, none⟩ = some (.map (some b)) := hc.1.cell_ rfl
  have hp := hc.1.lt
  have cc := Lib.hid (clone_ok w b (ents C) hc.2.1)
  replace hc := Lib.hid hc
  go_enter Try.func18, Try.ntmps18
  go_wp2_with fail
  refine cc.out.mono ?_
  rintro e w1 ⟨rfl, hM, hm, hlt⟩
  dsimp only
  replace hM := Lib.hid hM
  replace hm := Lib.hid hm
  replace hlt := Lib.hid hlt
  go_wp2_with fail
  go_ret
  refine ⟨w1.heap.size, w.heap.size, rfl, ⟨Blk.new _ _ _, hM.out.alloc _, by have := hlt.out; omega⟩, hm.out.alloc _, hm.out.size, Nat.le_refl _⟩
set_option maxRecDepth 100000 in
theorem copy_nil (w : World) : Calls Try.prog 18 #[.pointer none] w fun e w' => e = .returned (.pointer none) ∧ w = w' := by
  go_enter Try.func18, Try.ntmps18
  go_wp2_with fail
  go_ret
  exact ⟨rfl, rfl⟩
set_option maxRecDepth 100000 in
theorem all_nil (w : World) : Calls Try.prog 15 #[.pointer none] w fun e w' => e = .returned (.slice none 0 0) ∧ w = w' := by
  go_enter Try.func15, Try.ntmps15
  go_wp2_with fail
  go_ret
  exact ⟨rfl, rfl⟩
end Go.Proofs.Ytaohgefpnndjcaa
