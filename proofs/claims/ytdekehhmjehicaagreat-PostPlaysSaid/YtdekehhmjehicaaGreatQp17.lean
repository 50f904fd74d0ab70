import Derived.Test.YtdekehhmjehicaaGreatQp16
import Derived.Test.YtdekehhmjehicaaGreatQp10
import Derived.Test.YtdekehhmjehicaaGreatQp13
/-
  post.Read. No condition.
-/
namespace Go.Proofs.YtdekehhmjehicaaGreat
set_option linter.unusedVariables false
set_option linter.unusedSimpArgs false
open Go.RowKit
def MgPost (w : World) (r : Mg × Nat) (en : Ending) (w' : World) : Prop :=
  ∃ (m : Mg) (f : Nat) (L D : SV), r = (m, f) ∧ en = .returned (.tuple #[.agg #[.int .i64 m.frm, .int .i64 m.to, .int .i64 m.kind, .int .i64 m.r.i.r, .int .i64 m.r.i.n, .int .i64 m.r.bal, .int .i64 m.r.st, .int .i64 m.r.by_, .int .i64 m.r.e.o.c, .int .i64 m.r.e.o.s, .int .i64 m.r.e.o.k, .string (txt m.r.e.o.acct), .string (txt m.r.e.o.peer), .int .i64 m.r.e.o.sum, .slice L.a L.n L.c, .int .i64 m.r.e.o.per, .int .i64 m.r.e.o.hold, .string (txt m.r.e.o.note), .bool m.r.e.none, .slice D.a D.n D.c], .int .i64 (f : Int)]) ∧ EnM w' m.r.e L D ∧ Mod none_ w w'
theorem MgPost.zero {w w' : World} {r : Mg × Nat} {en : Ending} (h : r = (mg0, 3)) (he : en = .returned (.tuple #[.agg #[.int .i64 0, .int .i64 0, .int .i64 0, .int .i64 0, .int .i64 0, .int .i64 0, .int .i64 0, .int .i64 0, .int .i64 0, .int .i64 0, .int .i64 0, .string ⟨#[]⟩, .string ⟨#[]⟩, .int .i64 0, .slice none 0 0, .int .i64 0, .int .i64 0, .string ⟨#[]⟩, .bool false, .slice none 0 0], .int .i64 3])) (hm : Mod none_ w w') : MgPost w r en w' :=
  ⟨mg0, 3, ⟨none, 0, 0⟩, ⟨none, 0, 0⟩, h, he, en0_mem _, hm⟩
/-- a store of a part of a variable, behind which the walk goes on as it likes -/
theorem wp_store_blk {P : Program} {op : Oper} {a : Act} {w : World} {K : Act → World → Prop} {Q : Exit → Act → World → Prop} (ty : TypeId) (x y : Operand) (ho : op.op = .store ty x y)
    (g o : Nat) (cells : Array Value) (hx : a.eval x = .pointer (some ⟨g, o, none⟩)) (hy : a.eval y = .agg cells) {t : TypeId} {cs : Array Value} (hb : Blk w g t cs) (hn : o + cells.size ≤ cs.size)
    (hi : (P.info? ty).map (·.size) = some cells.size) (h1 : cells.toList.all (·.oneCell') = true) (cs' : Array Value) (hcs : cs.toList.take o ++ (cells.toList ++ cs.toList.drop (o + cells.size)) = cs'.toList)
    (h : ∀ w', Blk w' g t cs' → Mod (only g) w w' → K (a.put op.dst undef) w') : op.wp P a w K Q :=
  wp_store_mid ty x y ho g o cells hx hy (hb.there o _ hn) hi (by rw [← Array.all_toList]; exact h1) (h _ (by have e := setL_toList cells.toList cs o (by simpa using hn); rw [Array.length_toList, hcs, Array.toList_inj] at e; rw [← e]; exact Blk.setCells _ _ _ _ hb) (Mod.setCells _ _ _ _ (Mod.refl _ w) rfl))
def three (a b c : Nat) : Nat → Prop := fun k => k = a ∨ k = b ∨ k = c
theorem EndSt.turn {w : World} {t : TypeId} {z : Array Value} {g B q : Nat} {W W' : World} {cs cs' : Array Value} (h : EndSt w t z g B q W cs) (hq : w.heap.size < q) (hm : Mod (only q) W W') (hv : Blk W' q t cs') : EndSt w t z g B q W' cs' :=
  ⟨h.res.mod hm (fun hh => by have : w.heap.size = q := hh; omega), hv, h.mod.join hm (fun i hi => by have : i = q := hi; omega), h.gw, h.qg⟩
theorem EndSt.drew {w : World} {t : TypeId} {z : Array Value} {g B q : Nat} {W : World} {cs : Array Value} (h : EndSt w t z g B q W cs) : EndSt w t z g B q W.drew cs := h.mod0' (Mod.refl none_ W).drew
theorem mfin {b : List UInt8} {fx : Nat} {d : Nat} {o : Option Mg} (h : rdMsg b = if fx ≠ 0 ∨ d ≠ 0 then (mg0, 3) else match o with | none => (mg0, 3) | some m => (m, 0)) :
    (fx ≠ 0 → rdMsg b = (mg0, 3)) ∧ (d ≠ 0 → rdMsg b = (mg0, 3)) ∧ (fx = 0 → d = 0 → o = none → rdMsg b = (mg0, 3)) ∧ (fx = 0 → d = 0 → ∀ m, o = some m → rdMsg b = (m, 0)) := by
  refine ⟨fun h1 => by rw [h, if_pos (.inl h1)], fun h1 => by rw [h, if_pos (.inr h1)], fun h1 h2 h3 => by rw [h, if_neg (by omega), h3], fun h1 h2 m h3 => by rw [h, if_neg (by omega), h3]⟩
set_option maxRecDepth 100000 in
set_option maxHeartbeats 8000000 in
theorem postRead_f (w : World) (A : Option Addr) (n c : Nat) (b : List UInt8) (h : RdB w A n b) (hn : n ≤ 100000000) (f t k : Int) (e1 e2 e3 e4 e6 : Nat) (l1 l2 l3 l4 l6 s : List UInt8)
    (h1 : qg 0 6 (0, b) = (f, e1, l1)) (h2 : qg 0 6 (e1, l1) = (t, e2, l2)) (h3 : qg 1 9 (e2, l2) = (k, e3, l3)) (h4 : qg 0 1 (e3, l3) = (1, e4, l4)) (h5 : True) (h6 : qt 4096 (e4, l4) = (s, e6, l6))
    (rx : Rc) (fx : Nat) (hrec : Hid (rdRec s = (rx, fx))) (hfin : Hid (rdMsg b = if fx ≠ 0 ∨ dn l6 e6 ≠ 0 then (mg0, 3) else match mkM f t k true 0 rx with | none => (mg0, 3) | some m => (m, 0))) (hbx : Hid (rx.e.o = od0 ∨ okOd rx.e.o)) (hbl : Hid (rx.e.deps.length ≤ 100)) :
    Calls Tryz.prog 22 #[.slice A n c] w (MgPost w (rdMsg b)) := by
  have h6 := Lib.hid h6
  have hb0 := Blk.new w 46 #[.int .i64 0, .int .i64 0, .int .i64 0, .int .i64 0, .int .i64 0, .int .i64 0, .int .i64 0, .int .i64 0, .int .i64 0, .int .i64 0, .int .i64 0, .string ⟨#[]⟩, .string ⟨#[]⟩, .int .i64 0, .slice none 0 0, .int .i64 0, .int .i64 0, .string ⟨#[]⟩, .bool false, .slice none 0 0]
  have hm0 := (Mod.refl none_ w).alloc (.cells #[.int .i64 0, .int .i64 0, .int .i64 0, .int .i64 0, .int .i64 0, .int .i64 0, .int .i64 0, .int .i64 0, .int .i64 0, .int .i64 0, .int .i64 0, .string ⟨#[]⟩, .string ⟨#[]⟩, .int .i64 0, .slice none 0 0, .int .i64 0, .int .i64 0, .string ⟨#[]⟩, .bool false, .slice none 0 0] 46)
  have kN := new_ok _ A n c b (Rd.mod0 h hm0) (by omega)
  clear h
  replace h1 := Lib.hid h1
  replace h2 := Lib.hid h2
  replace h3 := Lib.hid h3
  replace h4 := Lib.hid h4
  replace h5 := Lib.hid h5
  replace hb0 := Lib.hid hb0
  replace hm0 := Lib.hid hm0
  go_enter Tryz.func22, Tryz.ntmps22
  go_wp2_with fail
  refine kN.mono ?_
  rintro en w1 ⟨g, B, rfl, hR, hg, hB, hB', hm⟩
  dsimp only
  clear kN
  simp only [World.size_alloc] at hg hB
  have hbr := hb0.out.mod hm (fun h => h)
  have hM := (hm0.out.trans hm).any (only g)
  have hgw : w.heap.size ≤ g := by omega
  have hng : ¬ w.heap.size = g := by omega
  clear hm
  replace hbr := Lib.hid hbr
  replace hM := Lib.hid hM
  go_wp2_with fail
  refine (psmall_r h1.out hR).mono ?_; rintro en w2 ⟨rfl, hR1, hm⟩; dsimp only at hR1 ⊢
  replace hbr := Lib.hid (hbr.out.mod hm (fun hh => hng hh)); replace hM := Lib.hid (hM.out.trans hm); have hsz := hm.size; clear hm hR
  go_wp2_with fail
  refine (psmall_r h2.out hR1).mono ?_; rintro en w3 ⟨rfl, hR2, hm⟩; dsimp only at hR2 ⊢
  replace hbr := Lib.hid (hbr.out.mod hm (fun hh => hng hh)); replace hM := Lib.hid (hM.out.trans hm); have hsz2 := hm.size; clear hm hR1
  go_wp2_with fail
  refine (psmall_r h3.out hR2).mono ?_; rintro en w4 ⟨rfl, hR3, hm⟩; dsimp only at hR3 ⊢
  replace hbr := Lib.hid (hbr.out.mod hm (fun hh => hng hh)); replace hM := Lib.hid (hM.out.trans hm); have hsz3 := hm.size; clear hm hR2
  have hgl := hR3.lt
  have hrl := hbr.out.lt
  have hst : FillC w 46 #[.int .i64 0, .int .i64 0, .int .i64 0, .int .i64 0, .int .i64 0, .int .i64 0, .int .i64 0, .int .i64 0, .int .i64 0, .int .i64 0, .int .i64 0, .string ⟨#[]⟩, .string ⟨#[]⟩, .int .i64 0, .slice none 0 0, .int .i64 0, .int .i64 0, .string ⟨#[]⟩, .bool false, .slice none 0 0] g B w4.heap.size (w4.alloc (.cells #[.int .i64 0, .int .i64 0, .int .i64 0, .int .i64 0, .int .i64 0, .int .i64 0, .int .i64 0, .int .i64 0, .int .i64 0, .int .i64 0, .int .i64 0, .string ⟨#[]⟩, .string ⟨#[]⟩, .int .i64 0, .slice none 0 0, .int .i64 0, .int .i64 0, .string ⟨#[]⟩, .bool false, .slice none 0 0] 46)) #[.int .i64 0, .int .i64 0, .int .i64 0, .int .i64 0, .int .i64 0, .int .i64 0, .int .i64 0, .int .i64 0, .int .i64 0, .int .i64 0, .int .i64 0, .string ⟨#[]⟩, .string ⟨#[]⟩, .int .i64 0, .slice none 0 0, .int .i64 0, .int .i64 0, .string ⟨#[]⟩, .bool false, .slice none 0 0] e3 l3 :=
    ⟨hR3.mod0 ((Mod.refl none_ w4).alloc _), hbr.out.alloc _, Blk.new w4 _ _, hM.out.alloc _, by omega, by omega, by omega, by omega, by omega, by simp only [World.size_alloc]; omega⟩
  clear hR3 hsz hsz2 hsz3 hgl hrl hB' hbr hM
  replace hst := Lib.hid hst
  go_wp2_with (refine wpList_store_blk rfl 46 (.tmp 5) (.tmp 19) rfl w4.heap.size 0 _ rfl rfl hst.out.var (by simp) msg_size (by rfl) #[.int .i64 f, .int .i64 t, .int .i64 k, .int .i64 0, .int .i64 0, .int .i64 0, .int .i64 0, .int .i64 0, .int .i64 0, .int .i64 0, .int .i64 0, .string ⟨#[]⟩, .string ⟨#[]⟩, .int .i64 0, .slice none 0 0, .int .i64 0, .int .i64 0, .string ⟨#[]⟩, .bool false, .slice none 0 0] rfl ?_; intro w4' hb4 hm4; replace hst := Lib.hid (hst.out.turn hm4 hb4); clear hb4 hm4)
  generalize hq : w4.heap.size = q at *
  replace hq := Lib.hid hq
  refine (psmall_r h4.out hst.out.rd).mono ?_; rintro en w5 ⟨rfl, hR, hm⟩; dsimp only at hR ⊢
  replace hst := Lib.hid (hst.out.call hm hR); clear hm hR
  go_wp2_with fail
  refine (rtext_r h6.out (by omega) hst.out.rd).mono ?_; rintro en w6 ⟨rfl, hR, hm⟩; dsimp only at hR ⊢
  replace hst := Lib.hid (hst.out.call hm hR); clear hm hR
  have hsl := qt_in h6.out (by omega)
  go_wp2_with (show wpList _ _ _ (⟨some 35, _, _, _, _, _⟩ :: _) _ _; go_loud (refine conv_b rfl (.tmp 34) rfl rfl ?_; intro A2 c2 w6' hr2 hf2 hc2 hm2 hl2; replace hst := Lib.hid (hst.out.mod0 hm2); replace hr2 := Lib.hid hr2; clear hf2 hc2 hm2 hl2))
  refine (logRead_ok _ A2 s.length c2 s hr2.out (by omega)).mono ?_
  rintro en w7 ⟨rx', fx', L, D, he, rfl, hEn, hfL0, hfD0, hm⟩
  rw [hrec.out] at he
  simp only [Prod.mk.injEq] at he
  obtain ⟨rfl, rfl⟩ := he
  dsimp only
  have hnn := hst.out.new_ne
  have hfL : ∀ a, L.a = some a → w.heap.size < a.block ∧ g < a.block ∧ q < a.block := fun a ha => by have := hfL0 a ha; omega
  have hfD : ∀ a, D.a = some a → w.heap.size < a.block ∧ g < a.block ∧ q < a.block := fun a ha => by have := hfD0 a ha; omega
  replace hst := Lib.hid ((hst.out.mod0 hm).alloc (.cells #[.int .i64 0, .int .i64 0, .int .i64 0, .int .i64 0, .int .i64 0, .int .i64 0, .int .i64 0, .int .i64 0, .string ⟨#[]⟩, .string ⟨#[]⟩, .int .i64 0, .slice none 0 0, .int .i64 0, .int .i64 0, .string ⟨#[]⟩, .bool false, .slice none 0 0] 77))
  have hq9 : q < w7.heap.size := by have := hm.size; omega
  have hr9 : w.heap.size < w7.heap.size := by have := hm.size; omega
  have hg9 : g < w7.heap.size := by have := hm.size; omega
  have hB9 : B < w7.heap.size := by have := hm.size; omega
  have hLl := Lib.hid (fun h0 => hEn.od.rd.blt h0 (by omega))
  have hDl := Lib.hid (fun h0 => hEn.rd.blt h0 (by omega))
  replace hEn := Lib.hid hEn
  replace hfL := Lib.hid hfL
  replace hfD := Lib.hid hfD
  have h9z := Lib.hid (Blk.new w7 77 #[.int .i64 0, .int .i64 0, .int .i64 0, .int .i64 0, .int .i64 0, .int .i64 0, .int .i64 0, .int .i64 0, .string ⟨#[]⟩, .string ⟨#[]⟩, .int .i64 0, .slice none 0 0, .int .i64 0, .int .i64 0, .string ⟨#[]⟩, .bool false, .slice none 0 0])
  clear hm hr2 hfL0 hfD0 hnn hsl
  go_upto_region 8 with (refine wpList_store_blk rfl 77 (.tmp 9) (.tmp 37) rfl w7.heap.size 0 _ rfl rfl h9z.out (by simp) record_size (by rfl) #[.int .i64 rx.i.r, .int .i64 rx.i.n, .int .i64 rx.bal, .int .i64 rx.st, .int .i64 rx.by_, .int .i64 rx.e.o.c, .int .i64 rx.e.o.s, .int .i64 rx.e.o.k, .string (txt rx.e.o.acct), .string (txt rx.e.o.peer), .int .i64 rx.e.o.sum, .slice L.a L.n L.c, .int .i64 rx.e.o.per, .int .i64 rx.e.o.hold, .string (txt rx.e.o.note), .bool rx.e.none, .slice D.a D.n D.c] rfl ?_; intro w7' h9 hm7)
  replace hst := Lib.hid (hst.out.own hm7 (fun hh => by have : g = w7.heap.size := hh; omega) (fun hh => by have : B = w7.heap.size := hh; omega) (fun hh => by have : q = w7.heap.size := hh; omega) (fun k hk => by have : k = w7.heap.size := hk; omega))
  have hEn' : EnM w7' rx.e L D := by
    have h0 := hEn.out.mod0 ((Mod.refl none_ w7).alloc (.cells #[.int .i64 0, .int .i64 0, .int .i64 0, .int .i64 0, .int .i64 0, .int .i64 0, .int .i64 0, .int .i64 0, .string ⟨#[]⟩, .string ⟨#[]⟩, .int .i64 0, .slice none 0 0, .int .i64 0, .int .i64 0, .string ⟨#[]⟩, .bool false, .slice none 0 0] 77))
    exact ⟨⟨Rd.mod' h0.od.rd hm7 (fun hn0 k hk hh => by have : k = w7.heap.size := hh; have := hLl.out hn0 k hk; omega), h0.od.cap⟩, Rd.mod' h0.rd hm7 (fun hn0 k hk hh => by have : k = w7.heap.size := hh; have := hDl.out hn0 k hk; omega), h0.cap⟩
  have hE := Lib.hid (fun W' (h : Mod (three q g w.heap.size) w7' W') => EnM.safe hEn' h (fun a ha hh => by have := hfL.out a ha; unfold three at hh; omega) (fun a ha hh => by have := hfD.out a ha; unfold three at hh; omega))
  have hX := Lib.hid (Mod.refl (three q g w.heap.size) w7')
  clear hm7 hEn hEn' hLl hDl h9z hB9
  replace h9 := Lib.hid h9
  generalize hq9e : w7.heap.size = q9 at *
  replace hq9e := Lib.hid hq9e
  refine wp_region_held_drew (S := fun W => Blk W q9 77 #[.int .i64 rx.i.r, .int .i64 rx.i.n, .int .i64 rx.bal, .int .i64 rx.st, .int .i64 rx.by_, .int .i64 rx.e.o.c, .int .i64 rx.e.o.s, .int .i64 rx.e.o.k, .string (txt rx.e.o.acct), .string (txt rx.e.o.peer), .int .i64 rx.e.o.sum, .slice L.a L.n L.c, .int .i64 rx.e.o.per, .int .i64 rx.e.o.hold, .string (txt rx.e.o.note), .bool rx.e.none, .slice D.a D.n D.c]) (by kernel_rfl) h9.out (fun hHeld => ?_)
  refine wpAnyH_take (i := 0) (v := ?_) rfl (by kernel_rfl) (by kernel_rfl) (by kernel_rfl) (fun _ _ _ h => h) (Or.inl ⟨by rfl, ?_⟩) (by assumption) ?_
  rotate_left
  · intro W hSw; (try dsimp only at hSw); go_simp; (try with_reducible rfl)
  try simp only [Act.put, List.getElem_toArray, List.getElem_cons_zero, List.getElem_cons_succ, List.setIfInBounds_toArray, List.set_cons_zero, List.set_cons_succ]
  refine wpAnyH_take (i := 1) rfl (by kernel_rfl) (by kernel_rfl) (by kernel_rfl) (fun _ _ _ h => h) (yieldsIf_load_mid (by rfl) 36 (.tmp 39) rfl q9 0 rfl [.int .i64 rx.i.r, .int .i64 rx.i.n] _ (fun W hW => Blk.range hW 0 _ rfl) Tryz.underlying36 rfl inst_size) (by assumption) ?_
  try simp only [Act.put, List.getElem_toArray, List.getElem_cons_zero, List.getElem_cons_succ, List.setIfInBounds_toArray, List.set_cons_zero, List.set_cons_succ]
  refine wpAnyH_take (i := 2) (v := ?_) rfl (by kernel_rfl) (by kernel_rfl) (by kernel_rfl) (fun _ _ _ h => h) (Or.inl ⟨by rfl, ?_⟩) (by assumption) ?_
  rotate_left
  · intro W hSw; (try dsimp only at hSw); go_simp; (try with_reducible rfl)
  try simp only [Act.put, List.getElem_toArray, List.getElem_cons_zero, List.getElem_cons_succ, List.setIfInBounds_toArray, List.set_cons_zero, List.set_cons_succ]
  refine wpAnyH_take (i := 3) (v := ?_) rfl (by kernel_rfl) (by kernel_rfl) (by kernel_rfl) (fun _ _ _ h => h) (Or.inl ⟨by rfl, ?_⟩) (by assumption) ?_
  rotate_left
  · intro W hSw; (try dsimp only at hSw); go_simp; (try with_reducible rfl)
  try simp only [Act.put, List.getElem_toArray, List.getElem_cons_zero, List.getElem_cons_succ, List.setIfInBounds_toArray, List.set_cons_zero, List.set_cons_succ]
  refine wpAnyH_take (i := 4) rfl (by kernel_rfl) (by kernel_rfl) (by kernel_rfl) (fun _ _ _ h => h) (yieldsIf_load_mid (by rfl) 44 (.tmp 42) rfl q9 5 rfl [.int .i64 rx.e.o.c, .int .i64 rx.e.o.s, .int .i64 rx.e.o.k, .string (txt rx.e.o.acct), .string (txt rx.e.o.peer), .int .i64 rx.e.o.sum, .slice L.a L.n L.c, .int .i64 rx.e.o.per, .int .i64 rx.e.o.hold, .string (txt rx.e.o.note), .bool rx.e.none, .slice D.a D.n D.c] _ (fun W hW => Blk.range hW 5 _ rfl) Tryz.underlying44 rfl entry_size) (by assumption) ?_
  try simp only [Act.put, List.getElem_toArray, List.getElem_cons_zero, List.getElem_cons_succ, List.setIfInBounds_toArray, List.set_cons_zero, List.set_cons_succ]
  refine wpAnyH_take (i := 5) (v := ?_) rfl (by kernel_rfl) (by kernel_rfl) (by kernel_rfl) (fun _ _ _ h => h) (Or.inl ⟨by rfl, ?_⟩) (by assumption) ?_
  rotate_left
  · intro W hSw; (try dsimp only at hSw); go_simp; (try with_reducible rfl)
  try simp only [Act.put, List.getElem_toArray, List.getElem_cons_zero, List.getElem_cons_succ, List.setIfInBounds_toArray, List.set_cons_zero, List.set_cons_succ]
  refine wpAnyH_ready (rs := [6]) (by kernel_rfl) (by simp) ?_
  refine AllReadyH.cons rfl (fun K hK => ?_) AllReadyH.nil
  rw [if_pos (by rfl)]
  refine wp_store_blk 36 (.tmp 44) (.tmp 40) rfl q 3 #[.int .i64 rx.i.r, .int .i64 rx.i.n] rfl rfl hst.out.drew.var (by simp) inst_size (by rfl) #[.int .i64 f, .int .i64 t, .int .i64 k, .int .i64 rx.i.r, .int .i64 rx.i.n, .int .i64 0, .int .i64 0, .int .i64 0, .int .i64 0, .int .i64 0, .int .i64 0, .string ⟨#[]⟩, .string ⟨#[]⟩, .int .i64 0, .slice none 0 0, .int .i64 0, .int .i64 0, .string ⟨#[]⟩, .bool false, .slice none 0 0] rfl ?_
  intro w8 hb8 hm8
  replace hst := Lib.hid (hst.out.drew.turn hm8 hb8)
  replace hX := Lib.hid (hX.out.drew.trans (hm8.mono (G := three q g w.heap.size) (fun k hk => .inl hk)))
  have h98 := h9.out.drew.mod hm8 (fun hh => by have : q9 = q := hh; omega)
  clear hb8 hm8
  refine hK.out _ _ (h98) (fun hHeld => ?_)
  clear hK K
  try simp only [Act.put, List.getElem_toArray, List.getElem_cons_zero, List.getElem_cons_succ, List.setIfInBounds_toArray, List.set_cons_zero, List.set_cons_succ]
  refine wpAnyH_take (i := 7) (v := ?_) rfl (by kernel_rfl) (by kernel_rfl) (by kernel_rfl) (fun _ _ _ h => h) (Or.inl ⟨by rfl, ?_⟩) (by assumption) ?_
  rotate_left
  · intro W hSw; (try dsimp only at hSw); go_simp; (try with_reducible rfl)
  try simp only [Act.put, List.getElem_toArray, List.getElem_cons_zero, List.getElem_cons_succ, List.setIfInBounds_toArray, List.set_cons_zero, List.set_cons_succ]
  refine wpAnyH_ready (rs := [8]) (by kernel_rfl) (by simp) ?_
  refine AllReadyH.cons rfl (fun K hK => ?_) AllReadyH.nil
  rw [if_pos (by rfl)]
  refine wp_store_blk 44 (.tmp 45) (.tmp 43) rfl q 8 #[.int .i64 rx.e.o.c, .int .i64 rx.e.o.s, .int .i64 rx.e.o.k, .string (txt rx.e.o.acct), .string (txt rx.e.o.peer), .int .i64 rx.e.o.sum, .slice L.a L.n L.c, .int .i64 rx.e.o.per, .int .i64 rx.e.o.hold, .string (txt rx.e.o.note), .bool rx.e.none, .slice D.a D.n D.c] rfl rfl hst.out.var (by simp) entry_size (by rfl) #[.int .i64 f, .int .i64 t, .int .i64 k, .int .i64 rx.i.r, .int .i64 rx.i.n, .int .i64 0, .int .i64 0, .int .i64 0, .int .i64 rx.e.o.c, .int .i64 rx.e.o.s, .int .i64 rx.e.o.k, .string (txt rx.e.o.acct), .string (txt rx.e.o.peer), .int .i64 rx.e.o.sum, .slice L.a L.n L.c, .int .i64 rx.e.o.per, .int .i64 rx.e.o.hold, .string (txt rx.e.o.note), .bool rx.e.none, .slice D.a D.n D.c] rfl ?_
  intro w9 hb9 hm9
  replace hst := Lib.hid (hst.out.turn hm9 hb9)
  replace hX := Lib.hid (hX.out.trans (hm9.mono (G := three q g w.heap.size) (fun k hk => .inl hk)))
  have h99 := Blk.mod h98 hm9 (fun hh => by have : q9 = q := hh; omega)
  clear hb9 hm9
  refine hK.out _ _ (h99) (fun hHeld => ?_)
  clear hK K
  try simp only [Act.put, List.getElem_toArray, List.getElem_cons_zero, List.getElem_cons_succ, List.setIfInBounds_toArray, List.set_cons_zero, List.set_cons_succ]
  refine wpAnyH_done (by kernel_rfl) ?_ _
  clear hHeld h9 h98
  replace h9 := Lib.hid h99
  clear h99
  have hEE := hE.out _ hX.out
  obtain ⟨v3, v4, v5⟩ := od_facts hbx.out
  have hbd : Hid (L.n ≤ 140737488355328 ∧ D.n ≤ 140737488355328 ∧ (Lit.int .i64 rx.e.o.k).wf = true ∧ ∀ l ∈ rx.e.o.legs, (txt l.n).size ≤ maxLen) := Lib.hid ⟨by have := hEE.od.rd.len; omega, by have := hEE.rd.len; have := hbl.out; omega, v4, v5⟩
  clear hEE v3 v4 v5
  obtain ⟨g1, g2, g3, g4⟩ := mfin hfin.out
  replace g3 := Lib.hid g3
  replace g4 := Lib.hid g4
  have hqw := hst.out.qw
  have hn9 : ¬ only g q9 := fun hh => by have : q9 = g := hh; omega
  replace hn9 := Lib.hid hn9
  by_cases hf0 : fx = 0
  · subst hf0
    clear g1
    go_wp2_with fail
    refine (done_ok _ g B e6 l6 hst.out.rd).mono ?_; rintro en w10 ⟨rfl, hm⟩; dsimp only
    replace hX := Lib.hid (hX.out.trans (hm.mono (G := three q g w.heap.size) (fun k hk => .inr (.inl hk))))
    replace h9 := Lib.hid (h9.out.mod hm hn9.out)
    replace hst := Lib.hid (hst.out.after hm); clear hm
    generalize hdn : dn l6 e6 = d at *
    replace hdn := Lib.hid hdn
    by_cases hd : d = 0
    · subst hd
      clear g2
      go_upto_region 12 with fail
      refine wp_region_held_drew (S := fun W => Blk W q9 77 #[.int .i64 rx.i.r, .int .i64 rx.i.n, .int .i64 rx.bal, .int .i64 rx.st, .int .i64 rx.by_, .int .i64 rx.e.o.c, .int .i64 rx.e.o.s, .int .i64 rx.e.o.k, .string (txt rx.e.o.acct), .string (txt rx.e.o.peer), .int .i64 rx.e.o.sum, .slice L.a L.n L.c, .int .i64 rx.e.o.per, .int .i64 rx.e.o.hold, .string (txt rx.e.o.note), .bool rx.e.none, .slice D.a D.n D.c]) (by kernel_rfl) h9.out (fun hHeld => ?_)
      refine wpAnyH_take (i := 0) (v := ?_) rfl (by kernel_rfl) (by kernel_rfl) (by kernel_rfl) (fun _ _ _ h => h) (Or.inl ⟨by rfl, ?_⟩) (by assumption) ?_
      rotate_left
      · intro W hSw; (try dsimp only at hSw); go_simp; (try with_reducible rfl)
      try simp only [Act.put, List.getElem_toArray, List.getElem_cons_zero, List.getElem_cons_succ, List.setIfInBounds_toArray, List.set_cons_zero, List.set_cons_succ]
      refine wpAnyH_take (i := 1) (v := ?_) rfl (by kernel_rfl) (by kernel_rfl) (by kernel_rfl) (fun _ _ _ h => h) (Or.inl ⟨by rfl, ?_⟩) (by assumption) ?_
      rotate_left
      · intro W hSw; (try dsimp only at hSw); go_simp; (try with_reducible rfl)
      try simp only [Act.put, List.getElem_toArray, List.getElem_cons_zero, List.getElem_cons_succ, List.setIfInBounds_toArray, List.set_cons_zero, List.set_cons_succ]
      refine wpAnyH_take (i := 3) (v := ?_) rfl (by kernel_rfl) (by kernel_rfl) (by kernel_rfl) (fun _ _ _ h => h) (Or.inl ⟨by rfl, ?_⟩) (by assumption) ?_
      rotate_left
      · intro W hSw; (try dsimp only at hSw); go_simp; (try with_reducible rfl)
      try simp only [Act.put, List.getElem_toArray, List.getElem_cons_zero, List.getElem_cons_succ, List.setIfInBounds_toArray, List.set_cons_zero, List.set_cons_succ]
      refine wpAnyH_take (i := 4) (v := ?_) rfl (by kernel_rfl) (by kernel_rfl) (by kernel_rfl) (fun _ _ _ h => h) (Or.inl ⟨by rfl, ?_⟩) (by assumption) ?_
      rotate_left
      · intro W hSw; (try dsimp only at hSw); go_simp; (try with_reducible rfl)
      try simp only [Act.put, List.getElem_toArray, List.getElem_cons_zero, List.getElem_cons_succ, List.setIfInBounds_toArray, List.set_cons_zero, List.set_cons_succ]
      refine wpAnyH_take (i := 6) (v := ?_) rfl (by kernel_rfl) (by kernel_rfl) (by kernel_rfl) (fun _ _ _ h => h) (Or.inl ⟨by rfl, ?_⟩) (by assumption) ?_
      rotate_left
      · intro W hSw; (try dsimp only at hSw); go_simp; (try with_reducible rfl)
      try simp only [Act.put, List.getElem_toArray, List.getElem_cons_zero, List.getElem_cons_succ, List.setIfInBounds_toArray, List.set_cons_zero, List.set_cons_succ]
      refine wpAnyH_take (i := 7) (v := ?_) rfl (by kernel_rfl) (by kernel_rfl) (by kernel_rfl) (fun _ _ _ h => h) (Or.inl ⟨by rfl, ?_⟩) (by assumption) ?_
      rotate_left
      · intro W hSw; (try dsimp only at hSw); go_simp; (try with_reducible rfl)
      try simp only [Act.put, List.getElem_toArray, List.getElem_cons_zero, List.getElem_cons_succ, List.setIfInBounds_toArray, List.set_cons_zero, List.set_cons_succ]
      refine wpAnyH_take (i := 2) (v := ?_) rfl (by kernel_rfl) (by kernel_rfl) (by kernel_rfl) (fun _ _ _ h => h) (Or.inl ⟨by rfl, ?_⟩) (by assumption) ?_
      rotate_left
      · intro W hSw; have s2 := Blk.cell_ hSw (i := 2) (v := .int .i64 rx.bal) rfl; go_simp; (try with_reducible rfl)
      try simp only [Act.put, List.getElem_toArray, List.getElem_cons_zero, List.getElem_cons_succ, List.setIfInBounds_toArray, List.set_cons_zero, List.set_cons_succ]
      refine wpAnyH_take (i := 5) (v := ?_) rfl (by kernel_rfl) (by kernel_rfl) (by kernel_rfl) (fun _ _ _ h => h) (Or.inl ⟨by rfl, ?_⟩) (by assumption) ?_
      rotate_left
      · intro W hSw; have s3 := Blk.cell_ hSw (i := 3) (v := .int .i64 rx.st) rfl; go_simp; (try with_reducible rfl)
      try simp only [Act.put, List.getElem_toArray, List.getElem_cons_zero, List.getElem_cons_succ, List.setIfInBounds_toArray, List.set_cons_zero, List.set_cons_succ]
      refine wpAnyH_take (i := 8) (v := ?_) rfl (by kernel_rfl) (by kernel_rfl) (by kernel_rfl) (fun _ _ _ h => h) (Or.inl ⟨by rfl, ?_⟩) (by assumption) ?_
      rotate_left
      · intro W hSw; have s4 := Blk.cell_ hSw (i := 4) (v := .int .i64 rx.by_) rfl; go_simp; (try with_reducible rfl)
      try simp only [Act.put, List.getElem_toArray, List.getElem_cons_zero, List.getElem_cons_succ, List.setIfInBounds_toArray, List.set_cons_zero, List.set_cons_succ]
      refine wpAnyH_take (i := 9) (v := ?_) rfl (by kernel_rfl) (by kernel_rfl) (by kernel_rfl) (fun _ _ _ h => h) (Or.inl ⟨by rfl, ?_⟩) (by assumption) ?_
      rotate_left
      · intro W hSw; (try dsimp only at hSw); go_simp; (try with_reducible rfl)
      try simp only [Act.put, List.getElem_toArray, List.getElem_cons_zero, List.getElem_cons_succ, List.setIfInBounds_toArray, List.set_cons_zero, List.set_cons_succ]
      have i0 : w10.cell? ⟨q, 5, none⟩ = some (.int .i64 0) := hst.out.var.cell_ rfl
      have i1 : w10.cell? ⟨q, 6, none⟩ = some (.int .i64 0) := hst.out.var.cell_ rfl
      have i2 : w10.cell? ⟨q, 7, none⟩ = some (.int .i64 0) := hst.out.var.cell_ rfl
      have f0 : w10.frozen? ⟨q, 5, none⟩ = false := hst.out.var.frozen 5
      have f1 : w10.frozen? ⟨q, 6, none⟩ = false := hst.out.var.frozen 6
      have f2 : w10.frozen? ⟨q, 7, none⟩ = false := hst.out.var.frozen 7
      have m1 := (Mod.refl (only q) w10).set_only 5 (.int .i64 rx.bal)
      have m2 := m1.set_only 6 (.int .i64 rx.st)
      have m3 := m2.set_only 7 (.int .i64 rx.by_)
      have hqq : ¬ only q q9 := fun hh => by have : q9 = q := hh; omega
      have hst2 : Hid (EndSt w 46 #[.int .i64 0, .int .i64 0, .int .i64 0, .int .i64 0, .int .i64 0, .int .i64 0, .int .i64 0, .int .i64 0, .int .i64 0, .int .i64 0, .int .i64 0, .string ⟨#[]⟩, .string ⟨#[]⟩, .int .i64 0, .slice none 0 0, .int .i64 0, .int .i64 0, .string ⟨#[]⟩, .bool false, .slice none 0 0] g B q ((((w10.setCell ⟨q, 5, none⟩ (.int .i64 rx.bal)).setCell ⟨q, 6, none⟩ (.int .i64 rx.st)).setCell ⟨q, 7, none⟩ (.int .i64 rx.by_)).drew) #[.int .i64 f, .int .i64 t, .int .i64 k, .int .i64 rx.i.r, .int .i64 rx.i.n, .int .i64 rx.bal, .int .i64 rx.st, .int .i64 rx.by_, .int .i64 rx.e.o.c, .int .i64 rx.e.o.s, .int .i64 rx.e.o.k, .string (txt rx.e.o.acct), .string (txt rx.e.o.peer), .int .i64 rx.e.o.sum, .slice L.a L.n L.c, .int .i64 rx.e.o.per, .int .i64 rx.e.o.hold, .string (txt rx.e.o.note), .bool rx.e.none, .slice D.a D.n D.c]) := Lib.hid ((hst.out.turn hqw m3 (((hst.out.var.set_ 5 (.int .i64 rx.bal)).set_ 6 (.int .i64 rx.st)).set_ 7 (.int .i64 rx.by_))).drew)
      have n1 := Blk.drew (h9.out.mod m1 hqq)
      have n2 := Blk.drew (h9.out.mod m2 hqq)
      have n3 := Blk.drew (h9.out.mod m3 hqq)
      replace hX := Lib.hid (hX.out.trans (m3.drew.mono (G := three q g w.heap.size) (fun k hk => .inl hk)))
      clear m1 m2 m3 hst h9
      refine wpAnyH_ready (rs := [10]) (by kernel_rfl) (by simp) ?_
      refine AllReadyH.cons rfl (fun K hK => ?_) AllReadyH.nil
      go_simp
      refine hK.out _ _ (n1) (fun hHeld => ?_)
      clear hK K
      try simp only [Act.put, List.getElem_toArray, List.getElem_cons_zero, List.getElem_cons_succ, List.setIfInBounds_toArray, List.set_cons_zero, List.set_cons_succ]
      refine wpAnyH_take (i := 11) (v := ?_) rfl (by kernel_rfl) (by kernel_rfl) (by kernel_rfl) (fun _ _ _ h => h) (Or.inl ⟨by rfl, ?_⟩) (by assumption) ?_
      rotate_left
      · intro W hSw; (try dsimp only at hSw); go_simp; (try with_reducible rfl)
      try simp only [Act.put, List.getElem_toArray, List.getElem_cons_zero, List.getElem_cons_succ, List.setIfInBounds_toArray, List.set_cons_zero, List.set_cons_succ]
      refine wpAnyH_ready (rs := [12]) (by kernel_rfl) (by simp) ?_
      refine AllReadyH.cons rfl (fun K hK => ?_) AllReadyH.nil
      go_simp
      refine hK.out _ _ (n2) (fun hHeld => ?_)
      clear hK K
      try simp only [Act.put, List.getElem_toArray, List.getElem_cons_zero, List.getElem_cons_succ, List.setIfInBounds_toArray, List.set_cons_zero, List.set_cons_succ]
      refine wpAnyH_take (i := 13) (v := ?_) rfl (by kernel_rfl) (by kernel_rfl) (by kernel_rfl) (fun _ _ _ h => h) (Or.inl ⟨by rfl, ?_⟩) (by assumption) ?_
      rotate_left
      · intro W hSw; (try dsimp only at hSw); go_simp; (try with_reducible rfl)
      try simp only [Act.put, List.getElem_toArray, List.getElem_cons_zero, List.getElem_cons_succ, List.setIfInBounds_toArray, List.set_cons_zero, List.set_cons_succ]
      refine wpAnyH_ready (rs := [14]) (by kernel_rfl) (by simp) ?_
      refine AllReadyH.cons rfl (fun K hK => ?_) AllReadyH.nil
      go_simp
      refine hK.out _ _ (n3) (fun hHeld => ?_)
      clear hK K
      try simp only [Act.put, List.getElem_toArray, List.getElem_cons_zero, List.getElem_cons_succ, List.setIfInBounds_toArray, List.set_cons_zero, List.set_cons_succ]
      refine wpAnyH_done (by kernel_rfl) ?_ _
      clear hHeld n1 n2 n3 i0 i1 i2 f0 f1 f2
      replace hst := hst2
      clear hst2
      generalize hW : ((((w10.setCell ⟨q, 5, none⟩ (.int .i64 rx.bal)).setCell ⟨q, 6, none⟩ (.int .i64 rx.st)).setCell ⟨q, 7, none⟩ (.int .i64 rx.by_)).drew) = W at *
      replace hW := Lib.hid hW
      have kR : Hid (Calls Tryz.prog 24 #[.agg #[.int .i64 f, .int .i64 t, .int .i64 k, .int .i64 rx.i.r, .int .i64 rx.i.n, .int .i64 rx.bal, .int .i64 rx.st, .int .i64 rx.by_, .int .i64 rx.e.o.c, .int .i64 rx.e.o.s, .int .i64 rx.e.o.k, .string (txt rx.e.o.acct), .string (txt rx.e.o.peer), .int .i64 rx.e.o.sum, .slice L.a L.n L.c, .int .i64 rx.e.o.per, .int .i64 rx.e.o.hold, .string (txt rx.e.o.note), .bool rx.e.none, .slice D.a D.n D.c]] W fun e' w' => e' = .returned (.bool (rightM ⟨f, t, k, rx⟩)) ∧ Mod none_ W w') := Lib.hid (rightM_ok W ⟨f, t, k, rx⟩ L D (hE.out W hX.out) hbd.out.1 hbd.out.2.1 hbd.out.2.2.1 hbd.out.2.2.2)
      go_wp2_with (refine wpList_load_row rfl 46 (.tmp 5) rfl q rfl _ _ _ _ hst.out.var Tryz.underlying46 rfl msg_size ?_)
      with_reducible refine kR.out.mono ?_
      rintro en w13 ⟨rfl, hm⟩
      dsimp only
      replace hX := Lib.hid (hX.out.trans (hm.any _))
      replace hst := Lib.hid (hst.out.mod0' hm)
      clear hm kR
      cases hr : rightM ⟨f, t, k, rx⟩ with
      | false =>
        have hf : Hid (rdMsg b = (mg0, 3)) := Lib.hid (g3.out (by first | rfl | trivial) (by first | rfl | trivial) (by unfold mkM; simp [hr]))
        clear hr
        go_wp2_with (refine wpList_store_blk rfl 46 (.tmp 2) (.tmp 89) rfl w.heap.size 0 _ rfl rfl hst.out.res (by simp) msg_size (by rfl) #[.int .i64 0, .int .i64 0, .int .i64 0, .int .i64 0, .int .i64 0, .int .i64 0, .int .i64 0, .int .i64 0, .int .i64 0, .int .i64 0, .int .i64 0, .string ⟨#[]⟩, .string ⟨#[]⟩, .int .i64 0, .slice none 0 0, .int .i64 0, .int .i64 0, .string ⟨#[]⟩, .bool false, .slice none 0 0] rfl ?_; intro w14 hb14 hm14; replace hb14 := Lib.hid hb14; replace hm14 := Lib.hid hm14)
        refine ret_row_tmp rfl w.heap.size rfl hb14.out Tryz.underlying46 rfl msg_size (.int .i64 3) rfl rfl ?_
        exact MgPost.zero hf.out rfl ((Mod.drop_new hst.out.mod hgw).in_new (Nat.le_refl _) hm14.out)
      | true =>
        have hf : Hid (rdMsg b = (⟨f, t, k, rx⟩, 0)) := Lib.hid (g4.out (by first | rfl | trivial) (by first | rfl | trivial) _ (by unfold mkM; simp [hr]))
        clear hr
        go_wp2_with (first | (refine wpList_load_row rfl 46 (.tmp 5) rfl q rfl _ _ _ _ hst.out.var Tryz.underlying46 rfl msg_size ?_) | (refine wpList_store_blk rfl 46 (.tmp 2) (.tmp 90) rfl w.heap.size 0 _ rfl rfl hst.out.res (by simp) msg_size (by rfl) #[.int .i64 f, .int .i64 t, .int .i64 k, .int .i64 rx.i.r, .int .i64 rx.i.n, .int .i64 rx.bal, .int .i64 rx.st, .int .i64 rx.by_, .int .i64 rx.e.o.c, .int .i64 rx.e.o.s, .int .i64 rx.e.o.k, .string (txt rx.e.o.acct), .string (txt rx.e.o.peer), .int .i64 rx.e.o.sum, .slice L.a L.n L.c, .int .i64 rx.e.o.per, .int .i64 rx.e.o.hold, .string (txt rx.e.o.note), .bool rx.e.none, .slice D.a D.n D.c] rfl ?_; intro w14 hb14 hm14; replace hb14 := Lib.hid hb14; replace hm14 := Lib.hid hm14))
        refine ret_row_tmp rfl w.heap.size rfl hb14.out Tryz.underlying46 rfl msg_size (.int .i64 0) rfl rfl ?_
        exact ⟨⟨f, t, k, rx⟩, 0, L, D, hf.out, rfl, hE.out w14 (hX.out.trans (hm14.out.mono (fun k hk => .inr (.inr hk)))), (Mod.drop_new hst.out.mod hgw).in_new (Nat.le_refl _) hm14.out⟩
    · have hd2 : ((d : Int) != 0) = true := by simp; omega
      have hf := Lib.hid (g2 hd)
      clear g2
      go_wp2_with (refine wpList_store_blk rfl 46 (.tmp 2) (.tmp 54) rfl w.heap.size 0 _ rfl rfl hst.out.res (by simp) msg_size (by rfl) #[.int .i64 0, .int .i64 0, .int .i64 0, .int .i64 0, .int .i64 0, .int .i64 0, .int .i64 0, .int .i64 0, .int .i64 0, .int .i64 0, .int .i64 0, .string ⟨#[]⟩, .string ⟨#[]⟩, .int .i64 0, .slice none 0 0, .int .i64 0, .int .i64 0, .string ⟨#[]⟩, .bool false, .slice none 0 0] rfl ?_; intro w14 hb14 hm14; replace hb14 := Lib.hid hb14; replace hm14 := Lib.hid hm14)
      refine ret_row_tmp rfl w.heap.size rfl hb14.out Tryz.underlying46 rfl msg_size (.int .i64 3) rfl rfl ?_
      exact MgPost.zero hf.out rfl ((Mod.drop_new hst.out.mod hgw).in_new (Nat.le_refl _) hm14.out)
  · have hf2 : ((fx : Int) != 0) = true := by simp; omega
    have hf := Lib.hid (g1 hf0)
    clear g1 g2
    go_wp2_with (refine wpList_store_blk rfl 46 (.tmp 2) (.tmp 54) rfl w.heap.size 0 _ rfl rfl hst.out.res (by simp) msg_size (by rfl) #[.int .i64 0, .int .i64 0, .int .i64 0, .int .i64 0, .int .i64 0, .int .i64 0, .int .i64 0, .int .i64 0, .int .i64 0, .int .i64 0, .int .i64 0, .string ⟨#[]⟩, .string ⟨#[]⟩, .int .i64 0, .slice none 0 0, .int .i64 0, .int .i64 0, .string ⟨#[]⟩, .bool false, .slice none 0 0] rfl ?_; intro w14 hb14 hm14; replace hb14 := Lib.hid hb14; replace hm14 := Lib.hid hm14)
    refine ret_row_tmp rfl w.heap.size rfl hb14.out Tryz.underlying46 rfl msg_size (.int .i64 3) rfl rfl ?_
    exact MgPost.zero hf.out rfl ((Mod.drop_new hst.out.mod hgw).in_new (Nat.le_refl _) hm14.out)
set_option maxRecDepth 100000 in
set_option maxHeartbeats 8000000 in
theorem postRead_p (w : World) (A : Option Addr) (n c : Nat) (b : List UInt8) (h : RdB w A n b) (hn : n ≤ 100000000) (f t k : Int) (bal : Int) (e1 e2 e3 e4 e6 : Nat) (l1 l2 l3 l4 l6 s : List UInt8)
    (h1 : qg 0 6 (0, b) = (f, e1, l1)) (h2 : qg 0 6 (e1, l1) = (t, e2, l2)) (h3 : qg 1 9 (e2, l2) = (k, e3, l3)) (h4 : qg 0 1 (e3, l3) = (0, e4, l4)) (e5 : Nat) (l5 : List UInt8) (h5 : qg 0 1000000 (e4, l4) = (bal, e5, l5)) (h6 : qt 4096 (e5, l5) = (s, e6, l6))
    (rx : Rc) (fx : Nat) (hrec : Hid (rdRec s = (rx, fx))) (hfin : Hid (rdMsg b = if fx ≠ 0 ∨ dn l6 e6 ≠ 0 then (mg0, 3) else match mkM f t k false bal rx with | none => (mg0, 3) | some m => (m, 0))) (hbx : Hid (rx.e.o = od0 ∨ okOd rx.e.o)) (hbl : Hid (rx.e.deps.length ≤ 100)) :
    Calls Tryz.prog 22 #[.slice A n c] w (MgPost w (rdMsg b)) := by
  have h6 := Lib.hid h6
  have hb0 := Blk.new w 46 #[.int .i64 0, .int .i64 0, .int .i64 0, .int .i64 0, .int .i64 0, .int .i64 0, .int .i64 0, .int .i64 0, .int .i64 0, .int .i64 0, .int .i64 0, .string ⟨#[]⟩, .string ⟨#[]⟩, .int .i64 0, .slice none 0 0, .int .i64 0, .int .i64 0, .string ⟨#[]⟩, .bool false, .slice none 0 0]
  have hm0 := (Mod.refl none_ w).alloc (.cells #[.int .i64 0, .int .i64 0, .int .i64 0, .int .i64 0, .int .i64 0, .int .i64 0, .int .i64 0, .int .i64 0, .int .i64 0, .int .i64 0, .int .i64 0, .string ⟨#[]⟩, .string ⟨#[]⟩, .int .i64 0, .slice none 0 0, .int .i64 0, .int .i64 0, .string ⟨#[]⟩, .bool false, .slice none 0 0] 46)
  have kN := new_ok _ A n c b (Rd.mod0 h hm0) (by omega)
  clear h
  replace h1 := Lib.hid h1
  replace h2 := Lib.hid h2
  replace h3 := Lib.hid h3
  replace h4 := Lib.hid h4
  replace h5 := Lib.hid h5
  replace hb0 := Lib.hid hb0
  replace hm0 := Lib.hid hm0
  go_enter Tryz.func22, Tryz.ntmps22
  go_wp2_with fail
  refine kN.mono ?_
  rintro en w1 ⟨g, B, rfl, hR, hg, hB, hB', hm⟩
  dsimp only
  clear kN
  simp only [World.size_alloc] at hg hB
  have hbr := hb0.out.mod hm (fun h => h)
  have hM := (hm0.out.trans hm).any (only g)
  have hgw : w.heap.size ≤ g := by omega
  have hng : ¬ w.heap.size = g := by omega
  clear hm
  replace hbr := Lib.hid hbr
  replace hM := Lib.hid hM
  go_wp2_with fail
  refine (psmall_r h1.out hR).mono ?_; rintro en w2 ⟨rfl, hR1, hm⟩; dsimp only at hR1 ⊢
  replace hbr := Lib.hid (hbr.out.mod hm (fun hh => hng hh)); replace hM := Lib.hid (hM.out.trans hm); have hsz := hm.size; clear hm hR
  go_wp2_with fail
  refine (psmall_r h2.out hR1).mono ?_; rintro en w3 ⟨rfl, hR2, hm⟩; dsimp only at hR2 ⊢
  replace hbr := Lib.hid (hbr.out.mod hm (fun hh => hng hh)); replace hM := Lib.hid (hM.out.trans hm); have hsz2 := hm.size; clear hm hR1
  go_wp2_with fail
  refine (psmall_r h3.out hR2).mono ?_; rintro en w4 ⟨rfl, hR3, hm⟩; dsimp only at hR3 ⊢
  replace hbr := Lib.hid (hbr.out.mod hm (fun hh => hng hh)); replace hM := Lib.hid (hM.out.trans hm); have hsz3 := hm.size; clear hm hR2
  have hgl := hR3.lt
  have hrl := hbr.out.lt
  have hst : FillC w 46 #[.int .i64 0, .int .i64 0, .int .i64 0, .int .i64 0, .int .i64 0, .int .i64 0, .int .i64 0, .int .i64 0, .int .i64 0, .int .i64 0, .int .i64 0, .string ⟨#[]⟩, .string ⟨#[]⟩, .int .i64 0, .slice none 0 0, .int .i64 0, .int .i64 0, .string ⟨#[]⟩, .bool false, .slice none 0 0] g B w4.heap.size (w4.alloc (.cells #[.int .i64 0, .int .i64 0, .int .i64 0, .int .i64 0, .int .i64 0, .int .i64 0, .int .i64 0, .int .i64 0, .int .i64 0, .int .i64 0, .int .i64 0, .string ⟨#[]⟩, .string ⟨#[]⟩, .int .i64 0, .slice none 0 0, .int .i64 0, .int .i64 0, .string ⟨#[]⟩, .bool false, .slice none 0 0] 46)) #[.int .i64 0, .int .i64 0, .int .i64 0, .int .i64 0, .int .i64 0, .int .i64 0, .int .i64 0, .int .i64 0, .int .i64 0, .int .i64 0, .int .i64 0, .string ⟨#[]⟩, .string ⟨#[]⟩, .int .i64 0, .slice none 0 0, .int .i64 0, .int .i64 0, .string ⟨#[]⟩, .bool false, .slice none 0 0] e3 l3 :=
    ⟨hR3.mod0 ((Mod.refl none_ w4).alloc _), hbr.out.alloc _, Blk.new w4 _ _, hM.out.alloc _, by omega, by omega, by omega, by omega, by omega, by simp only [World.size_alloc]; omega⟩
  clear hR3 hsz hsz2 hsz3 hgl hrl hB' hbr hM
  replace hst := Lib.hid hst
  go_wp2_with (refine wpList_store_blk rfl 46 (.tmp 5) (.tmp 19) rfl w4.heap.size 0 _ rfl rfl hst.out.var (by simp) msg_size (by rfl) #[.int .i64 f, .int .i64 t, .int .i64 k, .int .i64 0, .int .i64 0, .int .i64 0, .int .i64 0, .int .i64 0, .int .i64 0, .int .i64 0, .int .i64 0, .string ⟨#[]⟩, .string ⟨#[]⟩, .int .i64 0, .slice none 0 0, .int .i64 0, .int .i64 0, .string ⟨#[]⟩, .bool false, .slice none 0 0] rfl ?_; intro w4' hb4 hm4; replace hst := Lib.hid (hst.out.turn hm4 hb4); clear hb4 hm4)
  generalize hq : w4.heap.size = q at *
  replace hq := Lib.hid hq
  refine (psmall_r h4.out hst.out.rd).mono ?_; rintro en w5 ⟨rfl, hR, hm⟩; dsimp only at hR ⊢
  replace hst := Lib.hid (hst.out.call hm hR); clear hm hR
  go_wp2_with fail
  refine (psmall_r h5.out hst.out.rd).mono ?_; rintro en w5' ⟨rfl, hR, hm⟩; dsimp only at hR ⊢
  replace hst := Lib.hid (hst.out.call hm hR); clear hm hR
  have i0 : w5'.cell? ⟨q, 5, none⟩ = some (.int .i64 0) := hst.out.var.cell_ rfl
  have f0 : w5'.frozen? ⟨q, 5, none⟩ = false := hst.out.var.frozen 5
  replace hst : Hid (FillC w 46 #[.int .i64 0, .int .i64 0, .int .i64 0, .int .i64 0, .int .i64 0, .int .i64 0, .int .i64 0, .int .i64 0, .int .i64 0, .int .i64 0, .int .i64 0, .string ⟨#[]⟩, .string ⟨#[]⟩, .int .i64 0, .slice none 0 0, .int .i64 0, .int .i64 0, .string ⟨#[]⟩, .bool false, .slice none 0 0] g B q (w5'.setCell ⟨q, 5, none⟩ (.int .i64 bal)) #[.int .i64 f, .int .i64 t, .int .i64 k, .int .i64 0, .int .i64 0, .int .i64 bal, .int .i64 0, .int .i64 0, .int .i64 0, .int .i64 0, .int .i64 0, .string ⟨#[]⟩, .string ⟨#[]⟩, .int .i64 0, .slice none 0 0, .int .i64 0, .int .i64 0, .string ⟨#[]⟩, .bool false, .slice none 0 0] e5 l5) := Lib.hid (hst.out.store 5 (.int .i64 bal))
  go_wp2_with fail
  clear i0 f0
  refine (rtext_r h6.out (by omega) hst.out.rd).mono ?_; rintro en w6 ⟨rfl, hR, hm⟩; dsimp only at hR ⊢
  replace hst := Lib.hid (hst.out.call hm hR); clear hm hR
  have hsl := qt_in h6.out (by omega)
  go_wp2_with (show wpList _ _ _ (⟨some 35, _, _, _, _, _⟩ :: _) _ _; go_loud (refine conv_b rfl (.tmp 34) rfl rfl ?_; intro A2 c2 w6' hr2 hf2 hc2 hm2 hl2; replace hst := Lib.hid (hst.out.mod0 hm2); replace hr2 := Lib.hid hr2; clear hf2 hc2 hm2 hl2))
  refine (logRead_ok _ A2 s.length c2 s hr2.out (by omega)).mono ?_
  rintro en w7 ⟨rx', fx', L, D, he, rfl, hEn, hfL0, hfD0, hm⟩
  rw [hrec.out] at he
  simp only [Prod.mk.injEq] at he
  obtain ⟨rfl, rfl⟩ := he
  dsimp only
  have hnn := hst.out.new_ne
  have hfL : ∀ a, L.a = some a → w.heap.size < a.block ∧ g < a.block ∧ q < a.block := fun a ha => by have := hfL0 a ha; omega
  have hfD : ∀ a, D.a = some a → w.heap.size < a.block ∧ g < a.block ∧ q < a.block := fun a ha => by have := hfD0 a ha; omega
  replace hst := Lib.hid ((hst.out.mod0 hm).alloc (.cells #[.int .i64 0, .int .i64 0, .int .i64 0, .int .i64 0, .int .i64 0, .int .i64 0, .int .i64 0, .int .i64 0, .string ⟨#[]⟩, .string ⟨#[]⟩, .int .i64 0, .slice none 0 0, .int .i64 0, .int .i64 0, .string ⟨#[]⟩, .bool false, .slice none 0 0] 77))
  have hq9 : q < w7.heap.size := by have := hm.size; omega
  have hr9 : w.heap.size < w7.heap.size := by have := hm.size; omega
  have hg9 : g < w7.heap.size := by have := hm.size; omega
  have hB9 : B < w7.heap.size := by have := hm.size; omega
  have hLl := Lib.hid (fun h0 => hEn.od.rd.blt h0 (by omega))
  have hDl := Lib.hid (fun h0 => hEn.rd.blt h0 (by omega))
  replace hEn := Lib.hid hEn
  replace hfL := Lib.hid hfL
  replace hfD := Lib.hid hfD
  have h9z := Lib.hid (Blk.new w7 77 #[.int .i64 0, .int .i64 0, .int .i64 0, .int .i64 0, .int .i64 0, .int .i64 0, .int .i64 0, .int .i64 0, .string ⟨#[]⟩, .string ⟨#[]⟩, .int .i64 0, .slice none 0 0, .int .i64 0, .int .i64 0, .string ⟨#[]⟩, .bool false, .slice none 0 0])
  clear hm hr2 hfL0 hfD0 hnn hsl
  go_upto_region 8 with (refine wpList_store_blk rfl 77 (.tmp 9) (.tmp 37) rfl w7.heap.size 0 _ rfl rfl h9z.out (by simp) record_size (by rfl) #[.int .i64 rx.i.r, .int .i64 rx.i.n, .int .i64 rx.bal, .int .i64 rx.st, .int .i64 rx.by_, .int .i64 rx.e.o.c, .int .i64 rx.e.o.s, .int .i64 rx.e.o.k, .string (txt rx.e.o.acct), .string (txt rx.e.o.peer), .int .i64 rx.e.o.sum, .slice L.a L.n L.c, .int .i64 rx.e.o.per, .int .i64 rx.e.o.hold, .string (txt rx.e.o.note), .bool rx.e.none, .slice D.a D.n D.c] rfl ?_; intro w7' h9 hm7)
  replace hst := Lib.hid (hst.out.own hm7 (fun hh => by have : g = w7.heap.size := hh; omega) (fun hh => by have : B = w7.heap.size := hh; omega) (fun hh => by have : q = w7.heap.size := hh; omega) (fun k hk => by have : k = w7.heap.size := hk; omega))
  have hEn' : EnM w7' rx.e L D := by
    have h0 := hEn.out.mod0 ((Mod.refl none_ w7).alloc (.cells #[.int .i64 0, .int .i64 0, .int .i64 0, .int .i64 0, .int .i64 0, .int .i64 0, .int .i64 0, .int .i64 0, .string ⟨#[]⟩, .string ⟨#[]⟩, .int .i64 0, .slice none 0 0, .int .i64 0, .int .i64 0, .string ⟨#[]⟩, .bool false, .slice none 0 0] 77))
    exact ⟨⟨Rd.mod' h0.od.rd hm7 (fun hn0 k hk hh => by have : k = w7.heap.size := hh; have := hLl.out hn0 k hk; omega), h0.od.cap⟩, Rd.mod' h0.rd hm7 (fun hn0 k hk hh => by have : k = w7.heap.size := hh; have := hDl.out hn0 k hk; omega), h0.cap⟩
  have hE := Lib.hid (fun W' (h : Mod (three q g w.heap.size) w7' W') => EnM.safe hEn' h (fun a ha hh => by have := hfL.out a ha; unfold three at hh; omega) (fun a ha hh => by have := hfD.out a ha; unfold three at hh; omega))
  have hX := Lib.hid (Mod.refl (three q g w.heap.size) w7')
  clear hm7 hEn hEn' hLl hDl h9z hB9
  replace h9 := Lib.hid h9
  generalize hq9e : w7.heap.size = q9 at *
  replace hq9e := Lib.hid hq9e
  refine wp_region_held_drew (S := fun W => Blk W q9 77 #[.int .i64 rx.i.r, .int .i64 rx.i.n, .int .i64 rx.bal, .int .i64 rx.st, .int .i64 rx.by_, .int .i64 rx.e.o.c, .int .i64 rx.e.o.s, .int .i64 rx.e.o.k, .string (txt rx.e.o.acct), .string (txt rx.e.o.peer), .int .i64 rx.e.o.sum, .slice L.a L.n L.c, .int .i64 rx.e.o.per, .int .i64 rx.e.o.hold, .string (txt rx.e.o.note), .bool rx.e.none, .slice D.a D.n D.c]) (by kernel_rfl) h9.out (fun hHeld => ?_)
  refine wpAnyH_take (i := 0) (v := ?_) rfl (by kernel_rfl) (by kernel_rfl) (by kernel_rfl) (fun _ _ _ h => h) (Or.inl ⟨by rfl, ?_⟩) (by assumption) ?_
  rotate_left
  · intro W hSw; (try dsimp only at hSw); go_simp; (try with_reducible rfl)
  try simp only [Act.put, List.getElem_toArray, List.getElem_cons_zero, List.getElem_cons_succ, List.setIfInBounds_toArray, List.set_cons_zero, List.set_cons_succ]
  refine wpAnyH_take (i := 1) rfl (by kernel_rfl) (by kernel_rfl) (by kernel_rfl) (fun _ _ _ h => h) (yieldsIf_load_mid (by rfl) 36 (.tmp 39) rfl q9 0 rfl [.int .i64 rx.i.r, .int .i64 rx.i.n] _ (fun W hW => Blk.range hW 0 _ rfl) Tryz.underlying36 rfl inst_size) (by assumption) ?_
  try simp only [Act.put, List.getElem_toArray, List.getElem_cons_zero, List.getElem_cons_succ, List.setIfInBounds_toArray, List.set_cons_zero, List.set_cons_succ]
  refine wpAnyH_take (i := 2) (v := ?_) rfl (by kernel_rfl) (by kernel_rfl) (by kernel_rfl) (fun _ _ _ h => h) (Or.inl ⟨by rfl, ?_⟩) (by assumption) ?_
  rotate_left
  · intro W hSw; (try dsimp only at hSw); go_simp; (try with_reducible rfl)
  try simp only [Act.put, List.getElem_toArray, List.getElem_cons_zero, List.getElem_cons_succ, List.setIfInBounds_toArray, List.set_cons_zero, List.set_cons_succ]
  refine wpAnyH_take (i := 3) (v := ?_) rfl (by kernel_rfl) (by kernel_rfl) (by kernel_rfl) (fun _ _ _ h => h) (Or.inl ⟨by rfl, ?_⟩) (by assumption) ?_
  rotate_left
  · intro W hSw; (try dsimp only at hSw); go_simp; (try with_reducible rfl)
  try simp only [Act.put, List.getElem_toArray, List.getElem_cons_zero, List.getElem_cons_succ, List.setIfInBounds_toArray, List.set_cons_zero, List.set_cons_succ]
  refine wpAnyH_take (i := 4) rfl (by kernel_rfl) (by kernel_rfl) (by kernel_rfl) (fun _ _ _ h => h) (yieldsIf_load_mid (by rfl) 44 (.tmp 42) rfl q9 5 rfl [.int .i64 rx.e.o.c, .int .i64 rx.e.o.s, .int .i64 rx.e.o.k, .string (txt rx.e.o.acct), .string (txt rx.e.o.peer), .int .i64 rx.e.o.sum, .slice L.a L.n L.c, .int .i64 rx.e.o.per, .int .i64 rx.e.o.hold, .string (txt rx.e.o.note), .bool rx.e.none, .slice D.a D.n D.c] _ (fun W hW => Blk.range hW 5 _ rfl) Tryz.underlying44 rfl entry_size) (by assumption) ?_
  try simp only [Act.put, List.getElem_toArray, List.getElem_cons_zero, List.getElem_cons_succ, List.setIfInBounds_toArray, List.set_cons_zero, List.set_cons_succ]
  refine wpAnyH_take (i := 5) (v := ?_) rfl (by kernel_rfl) (by kernel_rfl) (by kernel_rfl) (fun _ _ _ h => h) (Or.inl ⟨by rfl, ?_⟩) (by assumption) ?_
  rotate_left
  · intro W hSw; (try dsimp only at hSw); go_simp; (try with_reducible rfl)
  try simp only [Act.put, List.getElem_toArray, List.getElem_cons_zero, List.getElem_cons_succ, List.setIfInBounds_toArray, List.set_cons_zero, List.set_cons_succ]
  refine wpAnyH_ready (rs := [6]) (by kernel_rfl) (by simp) ?_
  refine AllReadyH.cons rfl (fun K hK => ?_) AllReadyH.nil
  rw [if_pos (by rfl)]
  refine wp_store_blk 36 (.tmp 44) (.tmp 40) rfl q 3 #[.int .i64 rx.i.r, .int .i64 rx.i.n] rfl rfl hst.out.drew.var (by simp) inst_size (by rfl) #[.int .i64 f, .int .i64 t, .int .i64 k, .int .i64 rx.i.r, .int .i64 rx.i.n, .int .i64 bal, .int .i64 0, .int .i64 0, .int .i64 0, .int .i64 0, .int .i64 0, .string ⟨#[]⟩, .string ⟨#[]⟩, .int .i64 0, .slice none 0 0, .int .i64 0, .int .i64 0, .string ⟨#[]⟩, .bool false, .slice none 0 0] rfl ?_
  intro w8 hb8 hm8
  replace hst := Lib.hid (hst.out.drew.turn hm8 hb8)
  replace hX := Lib.hid (hX.out.drew.trans (hm8.mono (G := three q g w.heap.size) (fun k hk => .inl hk)))
  have h98 := h9.out.drew.mod hm8 (fun hh => by have : q9 = q := hh; omega)
  clear hb8 hm8
  refine hK.out _ _ (h98) (fun hHeld => ?_)
  clear hK K
  try simp only [Act.put, List.getElem_toArray, List.getElem_cons_zero, List.getElem_cons_succ, List.setIfInBounds_toArray, List.set_cons_zero, List.set_cons_succ]
  refine wpAnyH_take (i := 7) (v := ?_) rfl (by kernel_rfl) (by kernel_rfl) (by kernel_rfl) (fun _ _ _ h => h) (Or.inl ⟨by rfl, ?_⟩) (by assumption) ?_
  rotate_left
  · intro W hSw; (try dsimp only at hSw); go_simp; (try with_reducible rfl)
  try simp only [Act.put, List.getElem_toArray, List.getElem_cons_zero, List.getElem_cons_succ, List.setIfInBounds_toArray, List.set_cons_zero, List.set_cons_succ]
  refine wpAnyH_ready (rs := [8]) (by kernel_rfl) (by simp) ?_
  refine AllReadyH.cons rfl (fun K hK => ?_) AllReadyH.nil
  rw [if_pos (by rfl)]
  refine wp_store_blk 44 (.tmp 45) (.tmp 43) rfl q 8 #[.int .i64 rx.e.o.c, .int .i64 rx.e.o.s, .int .i64 rx.e.o.k, .string (txt rx.e.o.acct), .string (txt rx.e.o.peer), .int .i64 rx.e.o.sum, .slice L.a L.n L.c, .int .i64 rx.e.o.per, .int .i64 rx.e.o.hold, .string (txt rx.e.o.note), .bool rx.e.none, .slice D.a D.n D.c] rfl rfl hst.out.var (by simp) entry_size (by rfl) #[.int .i64 f, .int .i64 t, .int .i64 k, .int .i64 rx.i.r, .int .i64 rx.i.n, .int .i64 bal, .int .i64 0, .int .i64 0, .int .i64 rx.e.o.c, .int .i64 rx.e.o.s, .int .i64 rx.e.o.k, .string (txt rx.e.o.acct), .string (txt rx.e.o.peer), .int .i64 rx.e.o.sum, .slice L.a L.n L.c, .int .i64 rx.e.o.per, .int .i64 rx.e.o.hold, .string (txt rx.e.o.note), .bool rx.e.none, .slice D.a D.n D.c] rfl ?_
  intro w9 hb9 hm9
  replace hst := Lib.hid (hst.out.turn hm9 hb9)
  replace hX := Lib.hid (hX.out.trans (hm9.mono (G := three q g w.heap.size) (fun k hk => .inl hk)))
  have h99 := Blk.mod h98 hm9 (fun hh => by have : q9 = q := hh; omega)
  clear hb9 hm9
  refine hK.out _ _ (h99) (fun hHeld => ?_)
  clear hK K
  try simp only [Act.put, List.getElem_toArray, List.getElem_cons_zero, List.getElem_cons_succ, List.setIfInBounds_toArray, List.set_cons_zero, List.set_cons_succ]
  refine wpAnyH_done (by kernel_rfl) ?_ _
  clear hHeld h9 h98
  replace h9 := Lib.hid h99
  clear h99
  have hEE := hE.out _ hX.out
  obtain ⟨v3, v4, v5⟩ := od_facts hbx.out
  have hbd : Hid (L.n ≤ 140737488355328 ∧ D.n ≤ 140737488355328 ∧ (Lit.int .i64 rx.e.o.k).wf = true ∧ ∀ l ∈ rx.e.o.legs, (txt l.n).size ≤ maxLen) := Lib.hid ⟨by have := hEE.od.rd.len; omega, by have := hEE.rd.len; have := hbl.out; omega, v4, v5⟩
  clear hEE v3 v4 v5
  obtain ⟨g1, g2, g3, g4⟩ := mfin hfin.out
  replace g3 := Lib.hid g3
  replace g4 := Lib.hid g4
  have hqw := hst.out.qw
  have hn9 : ¬ only g q9 := fun hh => by have : q9 = g := hh; omega
  replace hn9 := Lib.hid hn9
  by_cases hf0 : fx = 0
  · subst hf0
    clear g1
    go_wp2_with fail
    refine (done_ok _ g B e6 l6 hst.out.rd).mono ?_; rintro en w10 ⟨rfl, hm⟩; dsimp only
    replace hX := Lib.hid (hX.out.trans (hm.mono (G := three q g w.heap.size) (fun k hk => .inr (.inl hk))))
    replace h9 := Lib.hid (h9.out.mod hm hn9.out)
    replace hst := Lib.hid (hst.out.after hm); clear hm
    generalize hdn : dn l6 e6 = d at *
    replace hdn := Lib.hid hdn
    by_cases hd : d = 0
    · subst hd
      clear g2
      have s3 : w10.cell? ⟨q9, 3, none⟩ = some (.int .i64 rx.st) := h9.out.cell_ rfl
      have s2 : w10.cell? ⟨q9, 2, none⟩ = some (.int .i64 rx.bal) := h9.out.cell_ rfl
      by_cases hs : rx.st = 3
      · rw [hs] at s3
        by_cases hb : rx.bal = 0
        · rw [hb] at s2
          have hgen : Hid (∀ o, mkM f t k false bal rx = o → o = if !rightR ⟨rx.i, bal, 0, 0, rx.e⟩ && rightM ⟨f, t, k, ⟨rx.i, bal, 0, 0, rx.e⟩⟩ then some ⟨f, t, k, ⟨rx.i, bal, 0, 0, rx.e⟩⟩ else none) := Lib.hid (fun o ho => by rw [← ho]; unfold mkM; simp [hs, hb])
          clear hs hb
          have kW : Hid (∀ W, Calls Tryz.prog 33 #[.agg #[.int .i64 f, .int .i64 t, .int .i64 k, .int .i64 rx.i.r, .int .i64 rx.i.n, .int .i64 bal, .int .i64 0, .int .i64 0, .int .i64 rx.e.o.c, .int .i64 rx.e.o.s, .int .i64 rx.e.o.k, .string (txt rx.e.o.acct), .string (txt rx.e.o.peer), .int .i64 rx.e.o.sum, .slice L.a L.n L.c, .int .i64 rx.e.o.per, .int .i64 rx.e.o.hold, .string (txt rx.e.o.note), .bool rx.e.none, .slice D.a D.n D.c]] W fun e' w' => e' = .returned (.agg #[.int .i64 rx.i.r, .int .i64 rx.i.n, .int .i64 bal, .int .i64 0, .int .i64 0, .int .i64 rx.e.o.c, .int .i64 rx.e.o.s, .int .i64 rx.e.o.k, .string (txt rx.e.o.acct), .string (txt rx.e.o.peer), .int .i64 rx.e.o.sum, .slice L.a L.n L.c, .int .i64 rx.e.o.per, .int .i64 rx.e.o.hold, .string (txt rx.e.o.note), .bool rx.e.none, .slice D.a D.n D.c]) ∧ Mod none_ W w') := Lib.hid (fun W => whole_ok W ⟨f, t, k, ⟨rx.i, bal, 0, 0, rx.e⟩⟩ L D)
          have kRr : Hid (∀ W, Mod none_ w10 W → Calls Tryz.prog 43 #[.agg #[.int .i64 rx.i.r, .int .i64 rx.i.n, .int .i64 bal, .int .i64 0, .int .i64 0, .int .i64 rx.e.o.c, .int .i64 rx.e.o.s, .int .i64 rx.e.o.k, .string (txt rx.e.o.acct), .string (txt rx.e.o.peer), .int .i64 rx.e.o.sum, .slice L.a L.n L.c, .int .i64 rx.e.o.per, .int .i64 rx.e.o.hold, .string (txt rx.e.o.note), .bool rx.e.none, .slice D.a D.n D.c]] W fun e' w' => e' = .returned (.bool (rightR ⟨rx.i, bal, 0, 0, rx.e⟩)) ∧ Mod none_ W w') := Lib.hid (fun W hW => rightR_ok W ⟨rx.i, bal, 0, 0, rx.e⟩ L D (hE.out W (hX.out.trans (hW.any _))) hbd.out.1 hbd.out.2.1 hbd.out.2.2.1 hbd.out.2.2.2)
          go_wp2_with (refine wpList_step (fun K hK => ?_); rw [if_pos (by rfl)]; refine wp_load_row 46 (.tmp 5) rfl q rfl _ _ _ _ hst.out.var Tryz.underlying46 rfl msg_size ?_; refine hK _ _ ?_)
          with_reducible refine (kW.out _).mono ?_
          rintro en w11 ⟨rfl, hm11⟩
          dsimp only
          replace hst := Lib.hid (hst.out.mod0' hm11)
          go_wp2_with fail
          with_reducible refine (kRr.out _ hm11).mono ?_
          rintro en W ⟨rfl, hm12⟩
          dsimp only
          replace hst := Lib.hid (hst.out.mod0' hm12)
          replace hX := Lib.hid (hX.out.trans ((hm11.trans hm12).any _))
          clear hm11 hm12 kW kRr s2 s3 h9
          cases hrr : rightR ⟨rx.i, bal, 0, 0, rx.e⟩ with
          | true =>
            have hf : Hid (rdMsg b = (mg0, 3)) := Lib.hid (g3.out (by first | rfl | trivial) (by first | rfl | trivial) (by rw [hgen.out _ rfl, hrr] <;> rfl))
            clear hrr
            go_wp2_with (refine wpList_store_blk rfl 46 (.tmp 2) (.tmp 85) rfl w.heap.size 0 _ rfl rfl hst.out.res (by simp) msg_size (by rfl) #[.int .i64 0, .int .i64 0, .int .i64 0, .int .i64 0, .int .i64 0, .int .i64 0, .int .i64 0, .int .i64 0, .int .i64 0, .int .i64 0, .int .i64 0, .string ⟨#[]⟩, .string ⟨#[]⟩, .int .i64 0, .slice none 0 0, .int .i64 0, .int .i64 0, .string ⟨#[]⟩, .bool false, .slice none 0 0] rfl ?_; intro w14 hb14 hm14; replace hb14 := Lib.hid hb14; replace hm14 := Lib.hid hm14)
            refine ret_row_tmp rfl w.heap.size rfl hb14.out Tryz.underlying46 rfl msg_size (.int .i64 3) rfl rfl ?_
            exact MgPost.zero hf.out rfl ((Mod.drop_new hst.out.mod hgw).in_new (Nat.le_refl _) hm14.out)
          | false =>
            have hmk : Hid (mkM f t k false bal rx = if rightM ⟨f, t, k, ⟨rx.i, bal, 0, 0, rx.e⟩⟩ then some ⟨f, t, k, ⟨rx.i, bal, 0, 0, rx.e⟩⟩ else none) := Lib.hid (by rw [hgen.out _ rfl, hrr]; simp)
            clear hrr
            have kR : Hid (Calls Tryz.prog 24 #[.agg #[.int .i64 f, .int .i64 t, .int .i64 k, .int .i64 rx.i.r, .int .i64 rx.i.n, .int .i64 bal, .int .i64 0, .int .i64 0, .int .i64 rx.e.o.c, .int .i64 rx.e.o.s, .int .i64 rx.e.o.k, .string (txt rx.e.o.acct), .string (txt rx.e.o.peer), .int .i64 rx.e.o.sum, .slice L.a L.n L.c, .int .i64 rx.e.o.per, .int .i64 rx.e.o.hold, .string (txt rx.e.o.note), .bool rx.e.none, .slice D.a D.n D.c]] W fun e' w' => e' = .returned (.bool (rightM ⟨f, t, k, ⟨rx.i, bal, 0, 0, rx.e⟩⟩)) ∧ Mod none_ W w') := Lib.hid (rightM_ok W ⟨f, t, k, ⟨rx.i, bal, 0, 0, rx.e⟩⟩ L D (hE.out W hX.out) hbd.out.1 hbd.out.2.1 hbd.out.2.2.1 hbd.out.2.2.2)
            go_wp2_with (refine wpList_load_row rfl 46 (.tmp 5) rfl q rfl _ _ _ _ hst.out.var Tryz.underlying46 rfl msg_size ?_)
            with_reducible refine kR.out.mono ?_
            rintro en w13 ⟨rfl, hm⟩
            dsimp only
            replace hX := Lib.hid (hX.out.trans (hm.any _))
            replace hst := Lib.hid (hst.out.mod0' hm)
            clear hm kR
            cases hr : rightM ⟨f, t, k, ⟨rx.i, bal, 0, 0, rx.e⟩⟩ with
            | false =>
              have hf : Hid (rdMsg b = (mg0, 3)) := Lib.hid (g3.out (by first | rfl | trivial) (by first | rfl | trivial) (by rw [hmk.out, hr] <;> rfl))
              clear hr
              go_wp2_with (refine wpList_store_blk rfl 46 (.tmp 2) (.tmp 89) rfl w.heap.size 0 _ rfl rfl hst.out.res (by simp) msg_size (by rfl) #[.int .i64 0, .int .i64 0, .int .i64 0, .int .i64 0, .int .i64 0, .int .i64 0, .int .i64 0, .int .i64 0, .int .i64 0, .int .i64 0, .int .i64 0, .string ⟨#[]⟩, .string ⟨#[]⟩, .int .i64 0, .slice none 0 0, .int .i64 0, .int .i64 0, .string ⟨#[]⟩, .bool false, .slice none 0 0] rfl ?_; intro w14 hb14 hm14; replace hb14 := Lib.hid hb14; replace hm14 := Lib.hid hm14)
              refine ret_row_tmp rfl w.heap.size rfl hb14.out Tryz.underlying46 rfl msg_size (.int .i64 3) rfl rfl ?_
              exact MgPost.zero hf.out rfl ((Mod.drop_new hst.out.mod hgw).in_new (Nat.le_refl _) hm14.out)
            | true =>
              have hf : Hid (rdMsg b = (⟨f, t, k, ⟨rx.i, bal, 0, 0, rx.e⟩⟩, 0)) := Lib.hid (g4.out (by first | rfl | trivial) (by first | rfl | trivial) _ (by rw [hmk.out, hr] <;> rfl))
              clear hr
              go_wp2_with (first | (refine wpList_load_row rfl 46 (.tmp 5) rfl q rfl _ _ _ _ hst.out.var Tryz.underlying46 rfl msg_size ?_) | (refine wpList_store_blk rfl 46 (.tmp 2) (.tmp 90) rfl w.heap.size 0 _ rfl rfl hst.out.res (by simp) msg_size (by rfl) #[.int .i64 f, .int .i64 t, .int .i64 k, .int .i64 rx.i.r, .int .i64 rx.i.n, .int .i64 bal, .int .i64 0, .int .i64 0, .int .i64 rx.e.o.c, .int .i64 rx.e.o.s, .int .i64 rx.e.o.k, .string (txt rx.e.o.acct), .string (txt rx.e.o.peer), .int .i64 rx.e.o.sum, .slice L.a L.n L.c, .int .i64 rx.e.o.per, .int .i64 rx.e.o.hold, .string (txt rx.e.o.note), .bool rx.e.none, .slice D.a D.n D.c] rfl ?_; intro w14 hb14 hm14; replace hb14 := Lib.hid hb14; replace hm14 := Lib.hid hm14))
              refine ret_row_tmp rfl w.heap.size rfl hb14.out Tryz.underlying46 rfl msg_size (.int .i64 0) rfl rfl ?_
              exact ⟨⟨f, t, k, ⟨rx.i, bal, 0, 0, rx.e⟩⟩, 0, L, D, hf.out, rfl, hE.out w14 (hX.out.trans (hm14.out.mono (fun k hk => .inr (.inr hk)))), (Mod.drop_new hst.out.mod hgw).in_new (Nat.le_refl _) hm14.out⟩
        · have hb2 : (rx.bal != 0) = true := by simpa using hb
          have hf : Hid (rdMsg b = (mg0, 3)) := Lib.hid (g3.out (by first | rfl | trivial) (by first | rfl | trivial) (by unfold mkM; simp [hb]))
          clear hs hb
          go_wp2_with (refine wpList_store_blk rfl 46 (.tmp 2) (.tmp 85) rfl w.heap.size 0 _ rfl rfl hst.out.res (by simp) msg_size (by rfl) #[.int .i64 0, .int .i64 0, .int .i64 0, .int .i64 0, .int .i64 0, .int .i64 0, .int .i64 0, .int .i64 0, .int .i64 0, .int .i64 0, .int .i64 0, .string ⟨#[]⟩, .string ⟨#[]⟩, .int .i64 0, .slice none 0 0, .int .i64 0, .int .i64 0, .string ⟨#[]⟩, .bool false, .slice none 0 0] rfl ?_; intro w14 hb14 hm14; replace hb14 := Lib.hid hb14; replace hm14 := Lib.hid hm14)
          refine ret_row_tmp rfl w.heap.size rfl hb14.out Tryz.underlying46 rfl msg_size (.int .i64 3) rfl rfl ?_
          exact MgPost.zero hf.out rfl ((Mod.drop_new hst.out.mod hgw).in_new (Nat.le_refl _) hm14.out)
      · have hs2 : (rx.st != 3) = true := by simpa using hs
        have hf : Hid (rdMsg b = (mg0, 3)) := Lib.hid (g3.out (by first | rfl | trivial) (by first | rfl | trivial) (by unfold mkM; simp [hs]))
        clear hs
        go_wp2_with (refine wpList_store_blk rfl 46 (.tmp 2) (.tmp 85) rfl w.heap.size 0 _ rfl rfl hst.out.res (by simp) msg_size (by rfl) #[.int .i64 0, .int .i64 0, .int .i64 0, .int .i64 0, .int .i64 0, .int .i64 0, .int .i64 0, .int .i64 0, .int .i64 0, .int .i64 0, .int .i64 0, .string ⟨#[]⟩, .string ⟨#[]⟩, .int .i64 0, .slice none 0 0, .int .i64 0, .int .i64 0, .string ⟨#[]⟩, .bool false, .slice none 0 0] rfl ?_; intro w14 hb14 hm14; replace hb14 := Lib.hid hb14; replace hm14 := Lib.hid hm14)
        refine ret_row_tmp rfl w.heap.size rfl hb14.out Tryz.underlying46 rfl msg_size (.int .i64 3) rfl rfl ?_
        exact MgPost.zero hf.out rfl ((Mod.drop_new hst.out.mod hgw).in_new (Nat.le_refl _) hm14.out)
    · have hd2 : ((d : Int) != 0) = true := by simp; omega
      have hf := Lib.hid (g2 hd)
      clear g2
      go_wp2_with (refine wpList_store_blk rfl 46 (.tmp 2) (.tmp 54) rfl w.heap.size 0 _ rfl rfl hst.out.res (by simp) msg_size (by rfl) #[.int .i64 0, .int .i64 0, .int .i64 0, .int .i64 0, .int .i64 0, .int .i64 0, .int .i64 0, .int .i64 0, .int .i64 0, .int .i64 0, .int .i64 0, .string ⟨#[]⟩, .string ⟨#[]⟩, .int .i64 0, .slice none 0 0, .int .i64 0, .int .i64 0, .string ⟨#[]⟩, .bool false, .slice none 0 0] rfl ?_; intro w14 hb14 hm14; replace hb14 := Lib.hid hb14; replace hm14 := Lib.hid hm14)
      refine ret_row_tmp rfl w.heap.size rfl hb14.out Tryz.underlying46 rfl msg_size (.int .i64 3) rfl rfl ?_
      exact MgPost.zero hf.out rfl ((Mod.drop_new hst.out.mod hgw).in_new (Nat.le_refl _) hm14.out)
  · have hf2 : ((fx : Int) != 0) = true := by simp; omega
    have hf := Lib.hid (g1 hf0)
    clear g1 g2
    go_wp2_with (refine wpList_store_blk rfl 46 (.tmp 2) (.tmp 54) rfl w.heap.size 0 _ rfl rfl hst.out.res (by simp) msg_size (by rfl) #[.int .i64 0, .int .i64 0, .int .i64 0, .int .i64 0, .int .i64 0, .int .i64 0, .int .i64 0, .int .i64 0, .int .i64 0, .int .i64 0, .int .i64 0, .string ⟨#[]⟩, .string ⟨#[]⟩, .int .i64 0, .slice none 0 0, .int .i64 0, .int .i64 0, .string ⟨#[]⟩, .bool false, .slice none 0 0] rfl ?_; intro w14 hb14 hm14; replace hb14 := Lib.hid hb14; replace hm14 := Lib.hid hm14)
    refine ret_row_tmp rfl w.heap.size rfl hb14.out Tryz.underlying46 rfl msg_size (.int .i64 3) rfl rfl ?_
    exact MgPost.zero hf.out rfl ((Mod.drop_new hst.out.mod hgw).in_new (Nat.le_refl _) hm14.out)
theorem rdRec_in {b : List UInt8} {x : Rc} {f : Nat} (h : rdRec b = (x, f)) : (x.e.o = od0 ∨ okOd x.e.o) ∧ x.e.deps.length ≤ 100 := by
  rcases rdRec_two b with h1 | h1
  · rw [h] at h1
    dsimp only at h1
    subst h1
    obtain ⟨_, _, h3⟩ := rdRec_yes h
    have h5 := h3.2.2.2.2
    by_cases hs : x.st = 0
    · rw [if_pos hs] at h5
      rw [h5]
      exact ⟨.inl rfl, by decide⟩
    · rw [if_neg hs] at h5
      obtain ⟨h6, h7, _⟩ := h5
      refine ⟨?_, h7⟩
      by_cases hb : x.e.none = true
      · rw [if_pos hb] at h6; exact .inl h6
      · rw [if_neg hb] at h6; exact .inr h6.2
  · rw [h] at h1
    simp only [Prod.mk.injEq] at h1
    rw [h1.1]
    exact ⟨.inl rfl, by decide⟩
theorem postRead_ok (w : World) (A : Option Addr) (n c : Nat) (b : List UInt8) (h : RdB w A n b) (hn : n ≤ 100000000) : Calls Tryz.prog 22 #[.slice A n c] w (MgPost w (rdMsg b)) := by
  obtain ⟨f, e1, l1, h1⟩ := tri_ (qg 0 6 (0, b))
  obtain ⟨t, e2, l2, h2⟩ := tri_ (qg 0 6 (e1, l1))
  obtain ⟨k, e3, l3, h3⟩ := tri_ (qg 1 9 (e2, l2))
  obtain ⟨x, e4, l4, h4⟩ := tri_ (qg 0 1 (e3, l3))
  by_cases hx : x = 1
  · subst hx
    obtain ⟨s, e6, l6, h6⟩ := tri_ (qt 4096 (e4, l4))
    obtain ⟨rx, fx, hrec⟩ := duo_ (rdRec s)
    obtain ⟨v1, v2⟩ := rdRec_in hrec
    refine postRead_f w A n c b h hn f t k e1 e2 e3 e4 e6 l1 l2 l3 l4 l6 s h1 h2 h3 h4 trivial h6 rx fx (Lib.hid hrec) (Lib.hid ?_) (Lib.hid v1) (Lib.hid v2)
    have hp : rdM (0, b) = ((f, t, k, true, 0, s), e6, l6) := by unfold rdM; rw [bd_of h1, bd_of h2, bd_of h3, bd_of h4, if_pos rfl, bd_of h6] <;> rfl
    unfold rdMsg
    rw [hp]
    dsimp only
    rw [hrec]
    rfl
  · obtain rfl : x = 0 := by have := qg_in h4; omega
    obtain ⟨bal, e5, l5, h5⟩ := tri_ (qg 0 1000000 (e4, l4))
    obtain ⟨s, e6, l6, h6⟩ := tri_ (qt 4096 (e5, l5))
    obtain ⟨rx, fx, hrec⟩ := duo_ (rdRec s)
    obtain ⟨v1, v2⟩ := rdRec_in hrec
    refine postRead_p w A n c b h hn f t k bal e1 e2 e3 e4 e6 l1 l2 l3 l4 l6 s h1 h2 h3 h4 e5 l5 h5 h6 rx fx (Lib.hid hrec) (Lib.hid ?_) (Lib.hid v1) (Lib.hid v2)
    have hp : rdM (0, b) = ((f, t, k, false, bal, s), e6, l6) := by unfold rdM; rw [bd_of h1, bd_of h2, bd_of h3, bd_of h4, if_neg (by omega), bd_of h5, bd_of h6] <;> rfl
    unfold rdMsg
    rw [hp]
    dsimp only
    rw [hrec]
    rfl
end Go.Proofs.YtdekehhmjehicaaGreat
/-
  slices.DeleteFunc of messages, with Put's predicate. No condition.
-/
namespace Go.Proofs.YtdekehhmjehicaaGreat
set_option linter.unusedVariables false
set_option linter.unusedSimpArgs false
open Go.RowKit
theorem filter_take_succ {xs : List Ms} {j : Nat} {x : Ms} (h : xs[j]? = some x) : (xs.take (j + 1)).filter RtM = (xs.take j).filter RtM ++ if RtM x then [x] else [] := by
  have hj : j < xs.length := by
    rcases Nat.lt_or_ge j xs.length with h1 | h1
    · exact h1
    · rw [List.getElem?_eq_none h1] at h; cases h
  rw [List.getElem?_eq_getElem hj] at h
  injection h with h
  rw [List.take_succ_eq_append_getElem hj, List.filter_append, h]
  cases hr : RtM x <;> simp [hr]
/-- the row at work: what is kept stands ahead, what is to be looked at behind -/
structure DelSt (w : World) (g n c : Nat) (xs : List Ms) (i j : Nat) (W : World) (ys : List Ms) : Prop where
  ow : OwM W (some ⟨g, 0, none⟩) n c ys
  lo : i ≤ j
  hi : j ≤ n
  kept : ys.take i = (xs.take j).filter RtM
  rest : ys.drop j = xs.drop j
  mod : Mod (only g) w W
theorem DelSt.at_ {w : World} {g n c : Nat} {xs : List Ms} {i j : Nat} {W : World} {ys : List Ms} (h : DelSt w g n c xs i j W ys) (hx : xs.length = n) (hj : j < n) : ∃ x, xs[j]? = some x ∧ ys[j]? = some x ∧ x ∈ xs := by
  have hjx : j < xs.length := by omega
  refine ⟨xs[j], List.getElem?_eq_getElem hjx, ?_, List.getElem_mem hjx⟩
  have := congrArg (·[0]?) h.rest
  simp only [List.getElem?_drop, Nat.add_zero] at this
  rw [this, List.getElem?_eq_getElem hjx]
theorem DelSt.skip {w : World} {g n c : Nat} {xs : List Ms} {i j : Nat} {W W' : World} {ys : List Ms} {x : Ms} (h : DelSt w g n c xs i j W ys) (hm : Mod none_ W W') (hx : xs[j]? = some x) (hj : j < n) (hr : RtM x = false) : DelSt w g n c xs i (j + 1) W' ys :=
  ⟨h.ow.mod0 hm, Nat.le_succ_of_le h.lo, hj, by rw [filter_take_succ hx, hr, h.kept]; simp, by have := congrArg (List.drop 1) h.rest; simpa [List.drop_drop] using this, h.mod.trans (hm.any _)⟩
theorem DelSt.keep {w : World} {g n c : Nat} {xs : List Ms} {i j : Nat} {W W' : World} {ys : List Ms} {x : Ms} (h : DelSt w g n c xs i j W ys) (hm : Mod none_ W W') (hx : xs[j]? = some x) (hj : j < n) (hr : RtM x = true) : DelSt w g n c xs (i + 1) (j + 1) (W'.setCells g (i * 20) (msC x)) (ys.set i x) := by
  have hl := h.ow.len
  have hlo := h.lo
  refine ⟨owM_set (h.ow.mod0 hm) (by omega) x, by omega, hj, ?_, ?_, Mod.setCells _ _ _ _ (h.mod.trans (hm.any _)) rfl⟩
  · rw [filter_take_succ hx, hr, ← h.kept]
    have hi : i < (ys.set i x).length := by rw [List.length_set]; omega
    rw [List.take_succ_eq_append_getElem hi]
    simp [List.take_set_of_le]
  · have := congrArg (List.drop 1) h.rest
    rw [List.drop_drop, List.drop_drop] at this
    rw [List.drop_set_of_lt (by omega)]
    simpa using this
theorem owM_there {w : World} {g n c : Nat} {ys : List Ms} (h : OwM w (some ⟨g, 0, none⟩) n c ys) {i : Nat} (hi : i < n) : w.there g (i * 20) 20 := by
  obtain ⟨g', cur, h4, hb, h5, _⟩ := Ow.form h (by omega)
  cases h4
  have := h.2.1
  exact hb.there _ _ (by have := Nat.mul_le_mul_right 20 this; omega)
/-- a message is stored into a row -/
theorem wpList_storeM {ops : Array Oper} {rest : List Oper} {op : Oper} {a : Act} {w : World} {Q : Exit → Act → World → Prop} (hgd : op.guard = none) (p y : Operand) (ho : op.op = .store 46 p y)
    (g i : Nat) (x : Ms) (hx : a.eval p = .pointer (some ⟨g, i * 20, none⟩)) (hy : a.eval y = .agg #[.int .i64 x.m.frm, .int .i64 x.m.to, .int .i64 x.m.kind, .int .i64 x.m.r.i.r, .int .i64 x.m.r.i.n, .int .i64 x.m.r.bal, .int .i64 x.m.r.st, .int .i64 x.m.r.by_, .int .i64 x.m.r.e.o.c, .int .i64 x.m.r.e.o.s, .int .i64 x.m.r.e.o.k, .string (txt x.m.r.e.o.acct), .string (txt x.m.r.e.o.peer), .int .i64 x.m.r.e.o.sum, .slice x.L.a x.L.n x.L.c, .int .i64 x.m.r.e.o.per, .int .i64 x.m.r.e.o.hold, .string (txt x.m.r.e.o.note), .bool x.m.r.e.none, .slice x.D.a x.D.n x.D.c]) (ht : w.there g (i * 20) 20)
    (h : ∀ w', Hid (w' = w.setCells g (i * 20) (msC x)) → wpList Tryz.prog ops Q rest (a.put op.dst undef) w') : wpList Tryz.prog ops Q (op :: rest) a w :=
  wpList_store_mid hgd 46 p y ho g (i * 20) #[.int .i64 x.m.frm, .int .i64 x.m.to, .int .i64 x.m.kind, .int .i64 x.m.r.i.r, .int .i64 x.m.r.i.n, .int .i64 x.m.r.bal, .int .i64 x.m.r.st, .int .i64 x.m.r.by_, .int .i64 x.m.r.e.o.c, .int .i64 x.m.r.e.o.s, .int .i64 x.m.r.e.o.k, .string (txt x.m.r.e.o.acct), .string (txt x.m.r.e.o.peer), .int .i64 x.m.r.e.o.sum, .slice x.L.a x.L.n x.L.c, .int .i64 x.m.r.e.o.per, .int .i64 x.m.r.e.o.hold, .string (txt x.m.r.e.o.note), .bool x.m.r.e.none, .slice x.D.a x.D.n x.D.c] hx hy ht msg_size (by rw [← Array.all_toList] <;> rfl) (h _ (Lib.hid rfl))
set_option maxRecDepth 100000 in
set_option maxHeartbeats 8000000 in
theorem deleteM_ok (w : World) (A : Option Addr) (n c : Nat) (xs : List Ms) (h : OwM w A n c xs) (hE : MsM w xs) (hF : FarsM (fp A) xs) (hk : ∀ x ∈ xs, MsOk x) (hn : n ≤ 100000000) :
    Calls Tryz.prog 25 #[.slice A n c, .func (Fn.func 27) #[] #[]] w fun e w' =>
      ∃ m, e = .returned (.slice A m c) ∧ OwM w' A m c (xs.filter RtM) ∧ Mod (fp A) w w' := by
  have hl := h.len
  have kI := Lib.hid (indexM_ok w A n c xs h.rd hE hk hn)
  replace h := Lib.hid h
  replace hE := Lib.hid hE
  replace hF := Lib.hid hF
  replace hk := Lib.hid hk
  replace hl := Lib.hid hl
  go_enter Tryz.func25, Tryz.ntmps25
  go_wp2_with fail
  with_reducible refine kI.out.mono ?_
  rintro e w1 ⟨hpost, hm1⟩
  rcases hpost with ⟨rfl, hall⟩ | ⟨i0, rfl, hi0, hall, x0, hx0, hr0⟩
  · dsimp only
    have hf : xs.filter RtM = xs := List.filter_eq_self.2 hall
    replace hm1 := Lib.hid hm1
    clear hall
    go_wp2_with fail
    go_ret
    exact ⟨n, rfl, by rw [hf]; exact h.out.mod0 hm1.out, hm1.out.any _⟩
  · dsimp only
    obtain ⟨g, cur, rfl, hb, h5, h6⟩ := h.out.form (by omega)
    have hcn := h.out.2.1
    have hcm := h.out.2.2.1
    clear hb h5 h6 cur
    have st0 : DelSt w g n c xs i0 (i0 + 1) w1 xs :=
      ⟨h.out.mod0 hm1, by omega, hi0, by rw [filter_take_succ hx0, hr0, List.filter_eq_self.2 hall]; simp, rfl, hm1.any _⟩
    have hi1 : ¬ ((i0 : Int) = -1) := by omega
    clear hall hx0 hr0
    replace hm1 := Lib.hid hm1
    replace st0 := Lib.hid st0
    go_wp2_with fail
    go_loopg [5, 6] (n - (i0 + 1)) (fun kk v5 v6 wr => ∃ i j : Nat, v5 = .int .i64 (i : Nat) ∧ v6 = .int .i64 (j : Nat) ∧ j + kk = n ∧ ∃ ys, DelSt w g n c xs i j wr ys)
    case atStart => exact ⟨i0, i0 + 1, rfl, by go_num, by omega, xs, st0.out⟩
    case round =>
      obtain ⟨i, j, rfl, rfl, hjk, ys, st⟩ := hrel
      have hlo := st.lo
      by_cases hlt : j < n
      · have hin : i < n := by omega
        obtain ⟨x, hx1, hx2, hxm⟩ := st.at_ hl.out hlt
        obtain ⟨b', o', x', hA', hx', hxi, hrg⟩ := rdm_get (w := wr) (Ow.rd st.ow) hlt
        cases hA'
        rw [hx2] at hxi
        injection hxi with hxi
        subst hxi
        unfold msC at hrg
        have hEx := (hF.out x hxm).en (hE.out x hxm) (st.mod.mono (G := fp (some (⟨g, 0, none⟩ : Addr))) (fun k hk => ⟨_, rfl, hk.symm⟩))
        have kP := Lib.hid (fun W (hm : Mod none_ wr W) => notRight_ok W x (hEx.mod0 hm) (hk.out x hxm))
        have hb0 := Lib.hid (Blk.new wr 46 #[.int .i64 0, .int .i64 0, .int .i64 0, .int .i64 0, .int .i64 0, .int .i64 0, .int .i64 0, .int .i64 0, .int .i64 0, .int .i64 0, .int .i64 0, .string ⟨#[]⟩, .string ⟨#[]⟩, .int .i64 0, .slice none 0 0, .int .i64 0, .int .i64 0, .string ⟨#[]⟩, .bool false, .slice none 0 0])
        have hmv := Lib.hid ((Mod.refl none_ wr).alloc (.cells #[.int .i64 0, .int .i64 0, .int .i64 0, .int .i64 0, .int .i64 0, .int .i64 0, .int .i64 0, .int .i64 0, .int .i64 0, .int .i64 0, .int .i64 0, .string ⟨#[]⟩, .string ⟨#[]⟩, .int .i64 0, .slice none 0 0, .int .i64 0, .int .i64 0, .string ⟨#[]⟩, .bool false, .slice none 0 0] 46))
        have hgl := Lib.hid (show g < wr.heap.size from st.ow.lt g ⟨_, rfl, rfl⟩)
        rw [Nat.zero_add] at hrg
        clear hx2 hEx hxm
        replace st := Lib.hid st
        replace hx1 := Lib.hid hx1
        replace hrg := Lib.hid hrg
        replace hx' := Lib.hid hx'
        go_wp2_with (first
          | (refine wpList_load_mid rfl 46 (.tmp 24) rfl g (j * 20) rfl _ _ hrg.out Tryz.underlying46 rfl msg_size ?_)
          | (refine wpList_store_blk rfl 46 (.tmp 7) (.tmp 25) rfl wr.heap.size 0 _ rfl rfl hb0.out (by simp) msg_size (by rfl) #[.int .i64 x.m.frm, .int .i64 x.m.to, .int .i64 x.m.kind, .int .i64 x.m.r.i.r, .int .i64 x.m.r.i.n, .int .i64 x.m.r.bal, .int .i64 x.m.r.st, .int .i64 x.m.r.by_, .int .i64 x.m.r.e.o.c, .int .i64 x.m.r.e.o.s, .int .i64 x.m.r.e.o.k, .string (txt x.m.r.e.o.acct), .string (txt x.m.r.e.o.peer), .int .i64 x.m.r.e.o.sum, .slice x.L.a x.L.n x.L.c, .int .i64 x.m.r.e.o.per, .int .i64 x.m.r.e.o.hold, .string (txt x.m.r.e.o.note), .bool x.m.r.e.none, .slice x.D.a x.D.n x.D.c] rfl ?_; intro w2 hb2 hm2; have hmv2 := Lib.hid (hmv.out.in_new (Nat.le_refl _) hm2); clear hm2; replace hb2 := Lib.hid hb2)
          | (refine wpList_load_row rfl 46 (.tmp 7) rfl wr.heap.size rfl _ _ _ _ hb2.out Tryz.underlying46 rfl msg_size ?_))
        with_reducible refine (kP.out _ hmv2.out).mono ?_
        rintro e w3 ⟨rfl, hm3⟩
        dsimp only
        have hb3 := Lib.hid (hb2.out.mod hm3 (fun h => h))
        have hmv3 := Lib.hid (hmv2.out.trans hm3)
        clear hm3 hb2
        cases hr : rightM x.m with
        | true =>
          have st2 := Lib.hid (st.out.keep hmv3.out hx1.out hlt hr)
          have hth : Hid (w3.there g (i * 20) 20) := Lib.hid (owM_there (st.out.ow.mod0 hmv3.out) (by omega))
          replace hr := Lib.hid hr
          go_wp2_with (first
            | (refine wpList_load_row rfl 46 (.tmp 7) rfl wr.heap.size rfl _ _ _ _ hb3.out Tryz.underlying46 rfl msg_size ?_)
            | (refine wpList_storeM rfl (.tmp 33) (.tmp 32) rfl g i x rfl rfl hth.out ?_; intro w4 hw4))
          go_roundg (gk - 1)
          case measure => omega
          case rel => exact ⟨i + 1, j + 1, by go_num, by go_num, by omega, _, by rw [hw4.out]; exact st2.out⟩
        | false =>
          have st2 := Lib.hid (st.out.skip hmv3.out hx1.out hlt hr)
          replace hr := Lib.hid hr
          go_wp2_with fail
          go_roundg (gk - 1)
          case measure => omega
          case rel => exact ⟨i, j + 1, rfl, by go_num, by omega, ys, st2.out⟩
      · obtain rfl : j = n := by have := st.hi; omega
        have hin : i ≤ j := st.lo
        have hkept := st.kept
        rw [List.take_of_length_le (l := xs) (by rw [hl.out]; exact Nat.le_refl _)] at hkept
        have hcl := fun (S : Option Addr) (d : Nat) (hS : 0 < j - i → S = (some (⟨g, 0, none⟩ : Addr)).map (·.add (i * 20))) => clearM (w := wr) 0 st.ow i hin S (j - i) d rfl hS
        have hmst := Lib.hid (st.mod.mono (G := fp (some (⟨g, 0, none⟩ : Addr))) (fun k hk => ⟨_, rfl, hk.symm⟩))
        by_cases hci : c = i
        · have hij : j = i := by omega
          obtain ⟨w2, hrun, ho2, hm2⟩ := hcl (some ⟨g, 0, none⟩) 0 (fun h0 => by omega)
          rw [hkept] at ho2
          have hmf := Lib.hid (hmst.out.trans hm2)
          have hci2 : Hid (c = i) := Lib.hid hci
          clear hm2 hkept hcl hij
          replace st := Lib.hid st
          replace ho2 := Lib.hid ho2
          go_wp2_with fail
          go_ret
          have ho3 := ho2.out
          rw [hci2.out] at ho3 ⊢
          exact ⟨i, rfl, ho3, hmf.out⟩
        · obtain ⟨w2, hrun, ho2, hm2⟩ := hcl (some ⟨g, i * 20, none⟩) (c - i) (fun h0 => by simp only [Option.map_some, add_lit])
          rw [hkept] at ho2
          have hmf := Lib.hid (hmst.out.trans hm2)
          clear hm2 hkept hcl
          replace st := Lib.hid st
          replace ho2 := Lib.hid ho2
          go_wp2_with fail
          go_ret
          exact ⟨i, rfl, ho2.out, hmf.out⟩
end Go.Proofs.YtdekehhmjehicaaGreat
/-
  post.Bytes. No condition.
-/
namespace Go.Proofs.YtdekehhmjehicaaGreat
set_option linter.unusedVariables false
set_option linter.unusedSimpArgs false
open Go.RowKit
theorem mgS_of {W : World} {g : Nat} {t : TypeId} {m : Mg} {L D : SV} (h : Blk W g t #[.int .i64 m.frm, .int .i64 m.to, .int .i64 m.kind, .int .i64 m.r.i.r, .int .i64 m.r.i.n, .int .i64 m.r.bal, .int .i64 m.r.st, .int .i64 m.r.by_, .int .i64 m.r.e.o.c, .int .i64 m.r.e.o.s, .int .i64 m.r.e.o.k, .string (txt m.r.e.o.acct), .string (txt m.r.e.o.peer), .int .i64 m.r.e.o.sum, .slice L.a L.n L.c, .int .i64 m.r.e.o.per, .int .i64 m.r.e.o.hold, .string (txt m.r.e.o.note), .bool m.r.e.none, .slice D.a D.n D.c]) :
    W.cell? ⟨g, 0, none⟩ = some (.int .i64 m.frm) ∧ W.cell? ⟨g, 1, none⟩ = some (.int .i64 m.to) ∧ W.cell? ⟨g, 2, none⟩ = some (.int .i64 m.kind) ∧ W.cell? ⟨g, 5, none⟩ = some (.int .i64 m.r.bal) := ⟨h.cell_ rfl, h.cell_ rfl, h.cell_ rfl, h.cell_ rfl⟩
set_option maxRecDepth 100000 in
set_option maxHeartbeats 8000000 in
theorem postBytes_ok (w : World) (m : Mg) (L D : SV) (hE : EnM w m.r.e L D) (hL : L.n ≤ 140737488355328) (hD : D.n ≤ 140737488355328) (hk : (Lit.int .i64 m.r.e.o.k).wf = true) (hz : ∀ l ∈ m.r.e.o.legs, (txt l.n).size ≤ maxLen) (hn : numsE m.r.e) :
    Calls Tryz.prog 21 #[.agg #[.int .i64 m.frm, .int .i64 m.to, .int .i64 m.kind, .int .i64 m.r.i.r, .int .i64 m.r.i.n, .int .i64 m.r.bal, .int .i64 m.r.st, .int .i64 m.r.by_, .int .i64 m.r.e.o.c, .int .i64 m.r.e.o.s, .int .i64 m.r.e.o.k, .string (txt m.r.e.o.acct), .string (txt m.r.e.o.peer), .int .i64 m.r.e.o.sum, .slice L.a L.n L.c, .int .i64 m.r.e.o.per, .int .i64 m.r.e.o.hold, .string (txt m.r.e.o.note), .bool m.r.e.none, .slice D.a D.n D.c]] w (BPost w (rightM m) (msgB m)) := by
  have hB := Blk.new w 46 #[.int .i64 m.frm, .int .i64 m.to, .int .i64 m.kind, .int .i64 m.r.i.r, .int .i64 m.r.i.n, .int .i64 m.r.bal, .int .i64 m.r.st, .int .i64 m.r.by_, .int .i64 m.r.e.o.c, .int .i64 m.r.e.o.s, .int .i64 m.r.e.o.k, .string (txt m.r.e.o.acct), .string (txt m.r.e.o.peer), .int .i64 m.r.e.o.sum, .slice L.a L.n L.c, .int .i64 m.r.e.o.per, .int .i64 m.r.e.o.hold, .string (txt m.r.e.o.note), .bool m.r.e.none, .slice D.a D.n D.c]
  have hm0 := (Mod.refl none_ w).alloc (.cells #[.int .i64 m.frm, .int .i64 m.to, .int .i64 m.kind, .int .i64 m.r.i.r, .int .i64 m.r.i.n, .int .i64 m.r.bal, .int .i64 m.r.st, .int .i64 m.r.by_, .int .i64 m.r.e.o.c, .int .i64 m.r.e.o.s, .int .i64 m.r.e.o.k, .string (txt m.r.e.o.acct), .string (txt m.r.e.o.peer), .int .i64 m.r.e.o.sum, .slice L.a L.n L.c, .int .i64 m.r.e.o.per, .int .i64 m.r.e.o.hold, .string (txt m.r.e.o.note), .bool m.r.e.none, .slice D.a D.n D.c] 46)
  have kR := Lib.hid (rightM_ok _ m L D (hE.mod0 hm0) hL hD hk hz)
  have kW := Lib.hid (fun W => whole_ok W m L D)
  have kBa := Lib.hid (fun W => bareM_ok W m L D)
  have kL := Lib.hid (fun W (h : Mod none_ w W) => logBytes_ok W m.r L D (hE.mod0 h) hL hD hk hz hn)
  have kL2 : Hid (∀ W, Mod none_ w W → Calls Tryz.prog 32 #[.agg #[.int .i64 m.r.i.r, .int .i64 m.r.i.n, .int .i64 0, .int .i64 3, .int .i64 0, .int .i64 m.r.e.o.c, .int .i64 m.r.e.o.s, .int .i64 m.r.e.o.k, .string (txt m.r.e.o.acct), .string (txt m.r.e.o.peer), .int .i64 m.r.e.o.sum, .slice L.a L.n L.c, .int .i64 m.r.e.o.per, .int .i64 m.r.e.o.hold, .string (txt m.r.e.o.note), .bool m.r.e.none, .slice D.a D.n D.c]] W (BPost W (rightR (bareR m.r)) (recB (bareR m.r)))) := Lib.hid (fun W h => logBytes_ok W (bareR m.r) L D (hE.mod0 h) hL hD hk hz hn)
  replace hB := Lib.hid hB
  replace hm0 := Lib.hid hm0
  replace hz := Lib.hid hz
  replace hE := Lib.hid hE
  go_enter Tryz.func21, Tryz.ntmps21
  go_wp2_with (refine wpList_load_row rfl 46 (.tmp 1) rfl w.heap.size rfl _ _ _ _ hB.out Tryz.underlying46 rfl msg_size ?_)
  with_reducible refine kR.out.mono ?_
  rintro e w1 ⟨rfl, hm1⟩
  dsimp only
  cases hr : rightM m with
  | false =>
    replace hr := Lib.hid hr
    replace hm1 := Lib.hid hm1
    go_wp2_with fail
    go_ret2
    exact .inr ⟨hr.out, rfl, hm0.out.trans hm1.out⟩
  | true =>
    obtain ⟨⟨k1, k1'⟩, ⟨k2, k2'⟩, ⟨k3, k3'⟩, k4⟩ := rightM_ends hr
    have hB1 := Lib.hid (hB.out.mod hm1 (fun h => h))
    have hmm := Lib.hid (hm0.out.trans hm1)
    clear hB hm1 hm0 kR
    replace hr := Lib.hid hr
    replace k4 := Lib.hid k4
    go_wp2_with (refine wpList_load_row rfl 46 (.tmp 1) rfl w.heap.size rfl _ _ _ _ hB1.out Tryz.underlying46 rfl msg_size ?_)
    with_reducible refine (kW.out _).mono ?_
    rintro e w2 ⟨rfl, hm2⟩
    dsimp only
    have hB2 := Lib.hid (hB1.out.mod hm2 (fun h => h))
    have hmm2 := Lib.hid (hmm.out.trans hm2)
    clear hm2 hB1 hmm
    go_wp2_with fail
    with_reducible refine (kL.out _ hmm2.out).mono ?_
    rintro e w3 hpost
    cases hrr : rightR m.r with
    | true =>
      obtain ⟨A3, c3, rfl, ho3, hf3, hm3⟩ : ∃ A c, e = .returned (.tuple #[.slice A (recB m.r).length c, .int .i64 0]) ∧ OwB w3 5 A (recB m.r).length c (recB m.r) ∧ Fresh w2 A ∧ Mod none_ w2 w3 := by
        rcases hpost with ⟨_, h⟩ | ⟨h, _⟩
        · exact h
        · rw [hrr] at h; cases h
      dsimp only
      have hrl := recB_len (rightR_okRc hrr hn)
      have hmsg : Hid (msgB m = (nb m.frm ++ (nb m.to ++ (nb m.kind ++ nb 1))) ++ txtB (recB m.r)) := Lib.hid (by unfold msgB; rw [hrr, if_pos rfl]; simp)
      have zx := Lib.hid (ByAt.of_ow ho3 (by omega))
      have hB3 := Lib.hid (hB2.out.mod hm3 (fun h => h))
      have hmm3 := Lib.hid (hmm2.out.trans hm3)
      generalize hgo : (recB m.r).length = n3 at *
      clear hpost ho3 hf3 hm3 hB2 hmm2 hrr
      replace hgo := Lib.hid hgo
      replace hn := Lib.hid hn
      go_wp2_with fail
      have hM0 := Lib.hid ((Mod.refl none_ w3).drew)
      have kC3 := Lib.hid (fun W (h : Mod none_ w3 W) => ByAt.conv (zx.out.mod0 h))
      dsimp only at kC3
      have kC := Lib.hid (fun W (h : Mod none_ w3 W) => mgS_of (hB3.out.mod h (fun h => h)))
      refine wp_region_held_drew (S := fun W => Mod none_ w3 W) (by kernel_rfl) hM0.out (fun hHeld => ?_)
      refine wpAnyH_take (i := 0) (v := ?_) rfl (by kernel_rfl) (by kernel_rfl) (by kernel_rfl) (fun _ _ _ h => h) (Or.inl ⟨by rfl, ?_⟩) (by assumption) ?_
      rotate_left
      · intro W hSw; (try dsimp only at hSw); go_simp; (try with_reducible rfl)
      try simp only [Act.put, List.getElem_toArray, List.getElem_cons_zero, List.getElem_cons_succ, List.setIfInBounds_toArray, List.set_cons_zero, List.set_cons_succ]
      refine wpAnyH_take (i := 2) (v := ?_) rfl (by kernel_rfl) (by kernel_rfl) (by kernel_rfl) (fun _ _ _ h => h) (Or.inl ⟨by rfl, ?_⟩) (by assumption) ?_
      rotate_left
      · intro W hSw; (try dsimp only at hSw); go_simp; (try with_reducible rfl)
      try simp only [Act.put, List.getElem_toArray, List.getElem_cons_zero, List.getElem_cons_succ, List.setIfInBounds_toArray, List.set_cons_zero, List.set_cons_succ]
      refine wpAnyH_take (i := 4) (v := ?_) rfl (by kernel_rfl) (by kernel_rfl) (by kernel_rfl) (fun _ _ _ h => h) (Or.inl ⟨by rfl, ?_⟩) (by assumption) ?_
      rotate_left
      · intro W hSw; (try dsimp only at hSw); go_simp; (try with_reducible rfl)
      try simp only [Act.put, List.getElem_toArray, List.getElem_cons_zero, List.getElem_cons_succ, List.setIfInBounds_toArray, List.set_cons_zero, List.set_cons_succ]
      refine wpAnyH_take (i := 8) (v := ?_) rfl (by kernel_rfl) (by kernel_rfl) (by kernel_rfl) (fun _ _ _ h => h) (Or.inl ⟨by rfl, ?_⟩) (by assumption) ?_
      rotate_left
      · intro W hSw; (try dsimp only at hSw); go_simp; (try with_reducible rfl)
      try simp only [Act.put, List.getElem_toArray, List.getElem_cons_zero, List.getElem_cons_succ, List.setIfInBounds_toArray, List.set_cons_zero, List.set_cons_succ]
      refine wpAnyH_take (i := 1) (v := ?_) rfl (by kernel_rfl) (by kernel_rfl) (by kernel_rfl) (fun _ _ _ h => h) (Or.inl ⟨by rfl, ?_⟩) (by assumption) ?_
      rotate_left
      · intro W hSw; obtain ⟨s0, s1, s2, s5⟩ := kC.out W hSw; go_simp; (try with_reducible rfl)
      try simp only [Act.put, List.getElem_toArray, List.getElem_cons_zero, List.getElem_cons_succ, List.setIfInBounds_toArray, List.set_cons_zero, List.set_cons_succ]
      refine wpAnyH_take (i := 3) (v := ?_) rfl (by kernel_rfl) (by kernel_rfl) (by kernel_rfl) (fun _ _ _ h => h) (Or.inl ⟨by rfl, ?_⟩) (by assumption) ?_
      rotate_left
      · intro W hSw; obtain ⟨s0, s1, s2, s5⟩ := kC.out W hSw; go_simp; (try with_reducible rfl)
      try simp only [Act.put, List.getElem_toArray, List.getElem_cons_zero, List.getElem_cons_succ, List.setIfInBounds_toArray, List.set_cons_zero, List.set_cons_succ]
      refine wpAnyH_take (i := 5) (v := ?_) rfl (by kernel_rfl) (by kernel_rfl) (by kernel_rfl) (fun _ _ _ h => h) (Or.inl ⟨by rfl, ?_⟩) (by assumption) ?_
      rotate_left
      · intro W hSw; obtain ⟨s0, s1, s2, s5⟩ := kC.out W hSw; go_simp; (try with_reducible rfl)
      try simp only [Act.put, List.getElem_toArray, List.getElem_cons_zero, List.getElem_cons_succ, List.setIfInBounds_toArray, List.set_cons_zero, List.set_cons_succ]
      refine wpAnyH_take (i := 9) (v := ?_) rfl (by kernel_rfl) (by kernel_rfl) (by kernel_rfl) (fun _ _ _ h => h) (Or.inl ⟨by rfl, ?_⟩) (by assumption) ?_
      rotate_left
      · intro W hSw; have hcv := kC3.out W hSw; go_simp; (try with_reducible rfl)
      try simp only [Act.put, List.getElem_toArray, List.getElem_cons_zero, List.getElem_cons_succ, List.setIfInBounds_toArray, List.set_cons_zero, List.set_cons_succ]
      refine wpAnyH_ready (rs := [6]) (by kernel_rfl) (by simp) ?_
      refine AllReadyH.cons rfl (fun K hK => ?_) AllReadyH.nil
      go_simp
      refine hK.out _ _ (((Mod.refl none_ w3).alloc (.cells #[.int .i64 m.frm, .int .i64 m.to, .int .i64 m.kind, .int .i64 1] 3)).drew) (fun hHeld => ?_)
      clear hK K
      try simp only [Act.put, List.getElem_toArray, List.getElem_cons_zero, List.getElem_cons_succ, List.setIfInBounds_toArray, List.set_cons_zero, List.set_cons_succ]
      have kn := pnums_ok (w3.alloc (.cells #[.int .i64 m.frm, .int .i64 m.to, .int .i64 m.kind, .int .i64 1] 3)).drew (some ⟨w3.heap.size, 0, none⟩) 4 4 [m.frm, m.to, m.kind, 1] (rdi_row w3 3 _ rfl [m.frm, m.to, m.kind, 1]) (by omega) (fun x hx => by simp at hx; rcases hx with rfl | rfl | rfl | rfl <;> exact in64_mk (by omega) (by omega))
      have hfl7 : [m.frm, m.to, m.kind, 1].flatMap nb = nb m.frm ++ (nb m.to ++ (nb m.kind ++ nb 1)) := by simp
      rw [hfl7] at kn
      refine wpAnyH_ready (rs := [7]) (by kernel_rfl) (by simp) ?_
      refine AllReadyH.cons rfl (fun K hK => ?_) AllReadyH.nil
      go_simp
      (with_reducible refine kn.mono ?_); rintro e2 w7 ⟨A7, c7, rfl, ho7, hf7, hm7⟩; dsimp only
      have hM7 := Lib.hid ((((Mod.refl none_ w3).alloc (.cells #[.int .i64 m.frm, .int .i64 m.to, .int .i64 m.kind, .int .i64 1] 3)).drew).trans hm7)
      have hl7 : (nb m.frm ++ (nb m.to ++ (nb m.kind ++ nb 1))).length ≤ 100 := by
        have := nb_len m.frm
        have := nb_len m.to
        have := nb_len m.kind
        have := nb_len 0
        have := nb_len 1
        have := nb_len m.r.bal
        simp only [List.length_append]; omega
      obtain ⟨p7, hp7⟩ : ∃ p7, p7 = nb m.frm ++ (nb m.to ++ (nb m.kind ++ nb 1)) := ⟨_, rfl⟩
      rw [← hp7] at ho7 hl7 ⊢
      have z7 := Lib.hid (ByAt.of_ow ho7 (by omega))
      clear kn hm7 hf7 ho7 hfl7
      replace hp7 := Lib.hid hp7
      go_wp2_with fail
      refine hK.out _ _ (hM7.out) (fun hHeld => ?_)
      clear hK K
      try simp only [Act.put, List.getElem_toArray, List.getElem_cons_zero, List.getElem_cons_succ, List.setIfInBounds_toArray, List.set_cons_zero, List.set_cons_succ]
      refine wpAnyH_ready (rs := [10]) (by kernel_rfl) (by simp) ?_
      refine AllReadyH.cons rfl (fun K hK => ?_) AllReadyH.nil
      go_simp
      (with_reducible refine (text_ok _ (recB m.r) (by have := hgo.out; omega)).mono ?_); rintro e2 w8 ⟨A8, c8, rfl, ho8, hf8, hm8⟩; dsimp only
      have hM8 := Lib.hid (hM7.out.trans hm8)
      replace z7 := Lib.hid (z7.out.mod0 hm8)
      have htl := txtB_len (recB m.r)
      have z8 := Lib.hid (ByAt.of_ow ho8 (by have := hgo.out; omega))
      clear hm8 hf8 ho8
      go_wp2_with fail
      refine hK.out _ _ (hM8.out) (fun hHeld => ?_)
      clear hK K
      try simp only [Act.put, List.getElem_toArray, List.getElem_cons_zero, List.getElem_cons_succ, List.setIfInBounds_toArray, List.set_cons_zero, List.set_cons_succ]
      have hbs : Hid (BsAt (w8.alloc (.cells #[.slice A7 p7.length c7, .slice A8 (txtB (recB m.r)).length c8] 59)) (some ⟨w8.heap.size, 0, none⟩) 2 [⟨A7, p7.length, c7⟩, ⟨A8, (txtB (recB m.r)).length, c8⟩] [p7, txtB (recB m.r)]) :=
        Lib.hid (bsAt_all w8 59 [⟨A7, p7.length, c7⟩, ⟨A8, (txtB (recB m.r)).length, c8⟩] [p7, txtB (recB m.r)] ⟨z7.out, z8.out, trivial⟩)
      refine wpAnyH_ready (rs := [11]) (by kernel_rfl) (by simp) ?_
      refine AllReadyH.cons rfl (fun K hK => ?_) AllReadyH.nil
      go_simp
      refine hK.out _ _ (hM8.out.alloc _) (fun hHeld => ?_)
      clear hK K
      try simp only [Act.put, List.getElem_toArray, List.getElem_cons_zero, List.getElem_cons_succ, List.setIfInBounds_toArray, List.set_cons_zero, List.set_cons_succ]
      have hfl : [p7, txtB (recB m.r)].flatten = msgB m := by rw [hmsg.out, hp7.out]; simp
      have kc := concatB_ok _ _ 2 2 _ _ hbs.out (by omega)
      rw [hfl] at kc
      refine wpAnyH_ready (rs := [12]) (by kernel_rfl) (by simp) ?_
      refine AllReadyH.cons rfl (fun K hK => ?_) AllReadyH.nil
      go_simp
      (with_reducible refine kc.mono ?_); rintro e2 w9 ⟨A9, c9, rfl, ho9, hf9, hm9⟩; dsimp only
      have hM9 := Lib.hid (hmm3.out.trans ((hM8.out.alloc _).trans hm9))
      have hM9' := Lib.hid ((hM8.out.alloc _).trans hm9)
      have hf := Lib.hid (hf9.later (hmm3.out.trans (hM8.out.alloc _)).size)
      replace ho9 := Lib.hid ho9
      clear hm9 hf9 hbs kc hfl z7 z8 htl
      generalize hlo : msgB m = lo at *
      replace hlo := Lib.hid hlo
      go_wp2_with fail
      refine hK.out _ _ (hM9'.out) (fun hHeld => ?_)
      clear hK K
      try simp only [Act.put, List.getElem_toArray, List.getElem_cons_zero, List.getElem_cons_succ, List.setIfInBounds_toArray, List.set_cons_zero, List.set_cons_succ]
      refine wpAnyH_take (i := 13) (v := ?_) rfl (by kernel_rfl) (by kernel_rfl) (by kernel_rfl) (fun _ _ _ h => h) (Or.inl ⟨by rfl, ?_⟩) (by assumption) ?_
      rotate_left
      · intro W hSw; (try dsimp only at hSw); go_simp; (try with_reducible rfl)
      try simp only [Act.put, List.getElem_toArray, List.getElem_cons_zero, List.getElem_cons_succ, List.setIfInBounds_toArray, List.set_cons_zero, List.set_cons_succ]
      refine wpAnyH_take (i := 14) (v := ?_) rfl (by kernel_rfl) (by kernel_rfl) (by kernel_rfl) (fun _ _ _ h => h) (Or.inl ⟨by rfl, ?_⟩) (by assumption) ?_
      rotate_left
      · intro W hSw; (try dsimp only at hSw); go_simp; (try with_reducible rfl)
      try simp only [Act.put, List.getElem_toArray, List.getElem_cons_zero, List.getElem_cons_succ, List.setIfInBounds_toArray, List.set_cons_zero, List.set_cons_succ]
      refine wpAnyH_done (by kernel_rfl) ?_ _
      clear hHeld hM0 hM7 hM8 kC3 kC
      go_wp2_with fail
      go_ret2
      exact .inl ⟨hr.out, A9, c9, rfl, ho9.out, hf.out, hM9.out⟩
    | false =>
      have k5 : rightR (bareR m.r) = true := by
        rcases k4.out with h | ⟨_, h⟩
        · rw [hrr] at h; cases h
        · exact h
      have k6 : plainB m = true := by
        rcases k4.out with h | ⟨h, _⟩
        · rw [hrr] at h; cases h
        · exact h
      unfold plainB at k6
      rw [decide_eq_true_eq] at k6
      have k7 := k6.2.2.1
      have k7' := k6.2.2.2
      clear k6
      obtain ⟨rfl, hm3⟩ : e = .returned (.tuple #[.slice none 0 0, .int .i64 1]) ∧ Mod none_ w2 w3 := by
        rcases hpost with ⟨h, _⟩ | ⟨_, h⟩
        · rw [hrr] at h; cases h
        · exact h
      dsimp only
      have hrl := recB_len (rightR_okRc k5 hn)
      have hmsg : Hid (msgB m = (nb m.frm ++ (nb m.to ++ (nb m.kind ++ (nb 0 ++ nb m.r.bal)))) ++ txtB (recB (bareR m.r))) := Lib.hid (by unfold msgB; rw [hrr]; simp)
      have hB3 := Lib.hid (hB2.out.mod hm3 (fun h => h))
      have hmm3 := Lib.hid (hmm2.out.trans hm3)
      clear hpost hm3 hB2 hmm2 hrr
      go_wp2_with (refine wpList_load_row rfl 46 (.tmp 1) rfl w.heap.size rfl _ _ _ _ hB3.out Tryz.underlying46 rfl msg_size ?_)
      with_reducible refine (kBa.out _).mono ?_
      rintro e w4 ⟨rfl, hm4⟩
      dsimp only
      have hB4 := Lib.hid (hB3.out.mod hm4 (fun h => h))
      have hmm4 := Lib.hid (hmm3.out.trans hm4)
      clear hm4 hB3 hmm3
      go_wp2_with fail
      with_reducible refine (kL2.out _ hmm4.out).mono ?_
      clear w3
      rintro e w3 hpost
      obtain ⟨A3, c3, rfl, ho3, hf3, hm3⟩ : ∃ A c, e = .returned (.tuple #[.slice A (recB (bareR m.r)).length c, .int .i64 0]) ∧ OwB w3 5 A (recB (bareR m.r)).length c (recB (bareR m.r)) ∧ Fresh w4 A ∧ Mod none_ w4 w3 := by
        rcases hpost with ⟨_, h⟩ | ⟨h, _⟩
        · exact h
        · rw [k5] at h; cases h
      dsimp only
      have zx := Lib.hid (ByAt.of_ow ho3 (by omega))
      have hB3 := Lib.hid (hB4.out.mod hm3 (fun h => h))
      have hmm3 := Lib.hid (hmm4.out.trans hm3)
      generalize hgo : (recB (bareR m.r)).length = n3 at *
      clear hpost ho3 hf3 hm3 hB4 hmm4 k5
      replace hgo := Lib.hid hgo
      replace hn := Lib.hid hn
      go_wp2_with fail
      have hM0 := Lib.hid ((Mod.refl none_ w3).drew)
      have kC3 := Lib.hid (fun W (h : Mod none_ w3 W) => ByAt.conv (zx.out.mod0 h))
      dsimp only at kC3
      have kC := Lib.hid (fun W (h : Mod none_ w3 W) => mgS_of (hB3.out.mod h (fun h => h)))
      refine wp_region_held_drew (S := fun W => Mod none_ w3 W) (by kernel_rfl) hM0.out (fun hHeld => ?_)
      refine wpAnyH_take (i := 0) (v := ?_) rfl (by kernel_rfl) (by kernel_rfl) (by kernel_rfl) (fun _ _ _ h => h) (Or.inl ⟨by rfl, ?_⟩) (by assumption) ?_
      rotate_left
      · intro W hSw; (try dsimp only at hSw); go_simp; (try with_reducible rfl)
      try simp only [Act.put, List.getElem_toArray, List.getElem_cons_zero, List.getElem_cons_succ, List.setIfInBounds_toArray, List.set_cons_zero, List.set_cons_succ]
      refine wpAnyH_take (i := 2) (v := ?_) rfl (by kernel_rfl) (by kernel_rfl) (by kernel_rfl) (fun _ _ _ h => h) (Or.inl ⟨by rfl, ?_⟩) (by assumption) ?_
      rotate_left
      · intro W hSw; (try dsimp only at hSw); go_simp; (try with_reducible rfl)
      try simp only [Act.put, List.getElem_toArray, List.getElem_cons_zero, List.getElem_cons_succ, List.setIfInBounds_toArray, List.set_cons_zero, List.set_cons_succ]
      refine wpAnyH_take (i := 4) (v := ?_) rfl (by kernel_rfl) (by kernel_rfl) (by kernel_rfl) (fun _ _ _ h => h) (Or.inl ⟨by rfl, ?_⟩) (by assumption) ?_
      rotate_left
      · intro W hSw; (try dsimp only at hSw); go_simp; (try with_reducible rfl)
      try simp only [Act.put, List.getElem_toArray, List.getElem_cons_zero, List.getElem_cons_succ, List.setIfInBounds_toArray, List.set_cons_zero, List.set_cons_succ]
      refine wpAnyH_take (i := 6) (v := ?_) rfl (by kernel_rfl) (by kernel_rfl) (by kernel_rfl) (fun _ _ _ h => h) (Or.inl ⟨by rfl, ?_⟩) (by assumption) ?_
      rotate_left
      · intro W hSw; (try dsimp only at hSw); go_simp; (try with_reducible rfl)
      try simp only [Act.put, List.getElem_toArray, List.getElem_cons_zero, List.getElem_cons_succ, List.setIfInBounds_toArray, List.set_cons_zero, List.set_cons_succ]
      refine wpAnyH_take (i := 10) (v := ?_) rfl (by kernel_rfl) (by kernel_rfl) (by kernel_rfl) (fun _ _ _ h => h) (Or.inl ⟨by rfl, ?_⟩) (by assumption) ?_
      rotate_left
      · intro W hSw; (try dsimp only at hSw); go_simp; (try with_reducible rfl)
      try simp only [Act.put, List.getElem_toArray, List.getElem_cons_zero, List.getElem_cons_succ, List.setIfInBounds_toArray, List.set_cons_zero, List.set_cons_succ]
      refine wpAnyH_take (i := 15) (v := ?_) rfl (by kernel_rfl) (by kernel_rfl) (by kernel_rfl) (fun _ _ _ h => h) (Or.inl ⟨by rfl, ?_⟩) (by assumption) ?_
      rotate_left
      · intro W hSw; (try dsimp only at hSw); go_simp; (try with_reducible rfl)
      try simp only [Act.put, List.getElem_toArray, List.getElem_cons_zero, List.getElem_cons_succ, List.setIfInBounds_toArray, List.set_cons_zero, List.set_cons_succ]
      refine wpAnyH_take (i := 1) (v := ?_) rfl (by kernel_rfl) (by kernel_rfl) (by kernel_rfl) (fun _ _ _ h => h) (Or.inl ⟨by rfl, ?_⟩) (by assumption) ?_
      rotate_left
      · intro W hSw; obtain ⟨s0, s1, s2, s5⟩ := kC.out W hSw; go_simp; (try with_reducible rfl)
      try simp only [Act.put, List.getElem_toArray, List.getElem_cons_zero, List.getElem_cons_succ, List.setIfInBounds_toArray, List.set_cons_zero, List.set_cons_succ]
      refine wpAnyH_take (i := 3) (v := ?_) rfl (by kernel_rfl) (by kernel_rfl) (by kernel_rfl) (fun _ _ _ h => h) (Or.inl ⟨by rfl, ?_⟩) (by assumption) ?_
      rotate_left
      · intro W hSw; obtain ⟨s0, s1, s2, s5⟩ := kC.out W hSw; go_simp; (try with_reducible rfl)
      try simp only [Act.put, List.getElem_toArray, List.getElem_cons_zero, List.getElem_cons_succ, List.setIfInBounds_toArray, List.set_cons_zero, List.set_cons_succ]
      refine wpAnyH_take (i := 5) (v := ?_) rfl (by kernel_rfl) (by kernel_rfl) (by kernel_rfl) (fun _ _ _ h => h) (Or.inl ⟨by rfl, ?_⟩) (by assumption) ?_
      rotate_left
      · intro W hSw; obtain ⟨s0, s1, s2, s5⟩ := kC.out W hSw; go_simp; (try with_reducible rfl)
      try simp only [Act.put, List.getElem_toArray, List.getElem_cons_zero, List.getElem_cons_succ, List.setIfInBounds_toArray, List.set_cons_zero, List.set_cons_succ]
      refine wpAnyH_take (i := 7) (v := ?_) rfl (by kernel_rfl) (by kernel_rfl) (by kernel_rfl) (fun _ _ _ h => h) (Or.inl ⟨by rfl, ?_⟩) (by assumption) ?_
      rotate_left
      · intro W hSw; obtain ⟨s0, s1, s2, s5⟩ := kC.out W hSw; go_simp; (try with_reducible rfl)
      try simp only [Act.put, List.getElem_toArray, List.getElem_cons_zero, List.getElem_cons_succ, List.setIfInBounds_toArray, List.set_cons_zero, List.set_cons_succ]
      refine wpAnyH_take (i := 11) (v := ?_) rfl (by kernel_rfl) (by kernel_rfl) (by kernel_rfl) (fun _ _ _ h => h) (Or.inl ⟨by rfl, ?_⟩) (by assumption) ?_
      rotate_left
      · intro W hSw; have hcv := kC3.out W hSw; go_simp; (try with_reducible rfl)
      try simp only [Act.put, List.getElem_toArray, List.getElem_cons_zero, List.getElem_cons_succ, List.setIfInBounds_toArray, List.set_cons_zero, List.set_cons_succ]
      refine wpAnyH_ready (rs := [8]) (by kernel_rfl) (by simp) ?_
      refine AllReadyH.cons rfl (fun K hK => ?_) AllReadyH.nil
      go_simp
      refine hK.out _ _ (((Mod.refl none_ w3).alloc (.cells #[.int .i64 m.frm, .int .i64 m.to, .int .i64 m.kind, .int .i64 0, .int .i64 m.r.bal] 3)).drew) (fun hHeld => ?_)
      clear hK K
      try simp only [Act.put, List.getElem_toArray, List.getElem_cons_zero, List.getElem_cons_succ, List.setIfInBounds_toArray, List.set_cons_zero, List.set_cons_succ]
      have kn := pnums_ok (w3.alloc (.cells #[.int .i64 m.frm, .int .i64 m.to, .int .i64 m.kind, .int .i64 0, .int .i64 m.r.bal] 3)).drew (some ⟨w3.heap.size, 0, none⟩) 5 5 [m.frm, m.to, m.kind, 0, m.r.bal] (rdi_row w3 3 _ rfl [m.frm, m.to, m.kind, 0, m.r.bal]) (by omega) (fun x hx => by simp at hx; rcases hx with rfl | rfl | rfl | rfl | rfl <;> exact in64_mk (by omega) (by omega))
      have hfl7 : [m.frm, m.to, m.kind, 0, m.r.bal].flatMap nb = nb m.frm ++ (nb m.to ++ (nb m.kind ++ (nb 0 ++ nb m.r.bal))) := by simp
      rw [hfl7] at kn
      refine wpAnyH_ready (rs := [9]) (by kernel_rfl) (by simp) ?_
      refine AllReadyH.cons rfl (fun K hK => ?_) AllReadyH.nil
      go_simp
      (with_reducible refine kn.mono ?_); rintro e2 w7 ⟨A7, c7, rfl, ho7, hf7, hm7⟩; dsimp only
      have hM7 := Lib.hid ((((Mod.refl none_ w3).alloc (.cells #[.int .i64 m.frm, .int .i64 m.to, .int .i64 m.kind, .int .i64 0, .int .i64 m.r.bal] 3)).drew).trans hm7)
      have hl7 : (nb m.frm ++ (nb m.to ++ (nb m.kind ++ (nb 0 ++ nb m.r.bal)))).length ≤ 100 := by
        have := nb_len m.frm
        have := nb_len m.to
        have := nb_len m.kind
        have := nb_len 0
        have := nb_len 1
        have := nb_len m.r.bal
        simp only [List.length_append]; omega
      obtain ⟨p7, hp7⟩ : ∃ p7, p7 = nb m.frm ++ (nb m.to ++ (nb m.kind ++ (nb 0 ++ nb m.r.bal))) := ⟨_, rfl⟩
      rw [← hp7] at ho7 hl7 ⊢
      have z7 := Lib.hid (ByAt.of_ow ho7 (by omega))
      clear kn hm7 hf7 ho7 hfl7
      replace hp7 := Lib.hid hp7
      go_wp2_with fail
      refine hK.out _ _ (hM7.out) (fun hHeld => ?_)
      clear hK K
      try simp only [Act.put, List.getElem_toArray, List.getElem_cons_zero, List.getElem_cons_succ, List.setIfInBounds_toArray, List.set_cons_zero, List.set_cons_succ]
      refine wpAnyH_ready (rs := [12]) (by kernel_rfl) (by simp) ?_
      refine AllReadyH.cons rfl (fun K hK => ?_) AllReadyH.nil
      go_simp
      (with_reducible refine (text_ok _ (recB (bareR m.r)) (by have := hgo.out; omega)).mono ?_); rintro e2 w8 ⟨A8, c8, rfl, ho8, hf8, hm8⟩; dsimp only
      have hM8 := Lib.hid (hM7.out.trans hm8)
      replace z7 := Lib.hid (z7.out.mod0 hm8)
      have htl := txtB_len (recB (bareR m.r))
      have z8 := Lib.hid (ByAt.of_ow ho8 (by have := hgo.out; omega))
      clear hm8 hf8 ho8
      go_wp2_with fail
      refine hK.out _ _ (hM8.out) (fun hHeld => ?_)
      clear hK K
      try simp only [Act.put, List.getElem_toArray, List.getElem_cons_zero, List.getElem_cons_succ, List.setIfInBounds_toArray, List.set_cons_zero, List.set_cons_succ]
      have hbs : Hid (BsAt (w8.alloc (.cells #[.slice A7 p7.length c7, .slice A8 (txtB (recB (bareR m.r))).length c8] 59)) (some ⟨w8.heap.size, 0, none⟩) 2 [⟨A7, p7.length, c7⟩, ⟨A8, (txtB (recB (bareR m.r))).length, c8⟩] [p7, txtB (recB (bareR m.r))]) :=
        Lib.hid (bsAt_all w8 59 [⟨A7, p7.length, c7⟩, ⟨A8, (txtB (recB (bareR m.r))).length, c8⟩] [p7, txtB (recB (bareR m.r))] ⟨z7.out, z8.out, trivial⟩)
      refine wpAnyH_ready (rs := [13]) (by kernel_rfl) (by simp) ?_
      refine AllReadyH.cons rfl (fun K hK => ?_) AllReadyH.nil
      go_simp
      refine hK.out _ _ (hM8.out.alloc _) (fun hHeld => ?_)
      clear hK K
      try simp only [Act.put, List.getElem_toArray, List.getElem_cons_zero, List.getElem_cons_succ, List.setIfInBounds_toArray, List.set_cons_zero, List.set_cons_succ]
      have hfl : [p7, txtB (recB (bareR m.r))].flatten = msgB m := by rw [hmsg.out, hp7.out]; simp
      have kc := concatB_ok _ _ 2 2 _ _ hbs.out (by omega)
      rw [hfl] at kc
      refine wpAnyH_ready (rs := [14]) (by kernel_rfl) (by simp) ?_
      refine AllReadyH.cons rfl (fun K hK => ?_) AllReadyH.nil
      go_simp
      (with_reducible refine kc.mono ?_); rintro e2 w9 ⟨A9, c9, rfl, ho9, hf9, hm9⟩; dsimp only
      have hM9 := Lib.hid (hmm3.out.trans ((hM8.out.alloc _).trans hm9))
      have hM9' := Lib.hid ((hM8.out.alloc _).trans hm9)
      have hf := Lib.hid (hf9.later (hmm3.out.trans (hM8.out.alloc _)).size)
      replace ho9 := Lib.hid ho9
      clear hm9 hf9 hbs kc hfl z7 z8 htl
      generalize hlo : msgB m = lo at *
      replace hlo := Lib.hid hlo
      go_wp2_with fail
      refine hK.out _ _ (hM9'.out) (fun hHeld => ?_)
      clear hK K
      try simp only [Act.put, List.getElem_toArray, List.getElem_cons_zero, List.getElem_cons_succ, List.setIfInBounds_toArray, List.set_cons_zero, List.set_cons_succ]
      refine wpAnyH_take (i := 16) (v := ?_) rfl (by kernel_rfl) (by kernel_rfl) (by kernel_rfl) (fun _ _ _ h => h) (Or.inl ⟨by rfl, ?_⟩) (by assumption) ?_
      rotate_left
      · intro W hSw; (try dsimp only at hSw); go_simp; (try with_reducible rfl)
      try simp only [Act.put, List.getElem_toArray, List.getElem_cons_zero, List.getElem_cons_succ, List.setIfInBounds_toArray, List.set_cons_zero, List.set_cons_succ]
      refine wpAnyH_take (i := 17) (v := ?_) rfl (by kernel_rfl) (by kernel_rfl) (by kernel_rfl) (fun _ _ _ h => h) (Or.inl ⟨by rfl, ?_⟩) (by assumption) ?_
      rotate_left
      · intro W hSw; (try dsimp only at hSw); go_simp; (try with_reducible rfl)
      try simp only [Act.put, List.getElem_toArray, List.getElem_cons_zero, List.getElem_cons_succ, List.setIfInBounds_toArray, List.set_cons_zero, List.set_cons_succ]
      refine wpAnyH_done (by kernel_rfl) ?_ _
      clear hHeld hM0 hM7 hM8 kC3 kC
      go_wp2_with fail
      go_ret2
      exact .inl ⟨hr.out, A9, c9, rfl, ho9.out, hf.out, hM9.out⟩
end Go.Proofs.YtdekehhmjehicaaGreat
/-
  The bag: New, Len, All, put, Put. No condition.
-/
namespace Go.Proofs.YtdekehhmjehicaaGreat
set_option linter.unusedVariables false
set_option linter.unusedSimpArgs false
open Go.RowKit
/-- a bag in memory: its slice, what it has -/
structure BagSt (W : World) (p : Nat) (A : Option Addr) (n c : Nat) (xs : List Ms) : Prop where
  blk : Blk W p 67 #[.slice A n c]
  ow : OwM W A n c xs
  np : ¬ fp A p
theorem BagSt.mod {F : Nat → Prop} {W W' : World} {p : Nat} {A : Option Addr} {n c : Nat} {xs : List Ms} (h : BagSt W p A n c xs) (hm : Mod F W W') (hp : ¬ F p) (hA : ∀ k, fp A k → ¬ F k) : BagSt W' p A n c xs := ⟨h.blk.mod hm hp, h.ow.mod hm hA, h.np⟩
theorem BagSt.mod0 {W W' : World} {p : Nat} {A : Option Addr} {n c : Nat} {xs : List Ms} (h : BagSt W p A n c xs) (hm : Mod none_ W W') : BagSt W' p A n c xs := h.mod hm (fun h => h) (fun _ _ h => h)
theorem BagSt.len {W : World} {p : Nat} {A : Option Addr} {n c : Nat} {xs : List Ms} (h : BagSt W p A n c xs) : xs.length = n := h.ow.len
/-- what a bag's own memory is -/
def bagF (p : Nat) (A : Option Addr) : Nat → Prop := fun k => k = p ∨ fp A k
theorem bagNew_ok (w : World) : Calls Tryz.prog 5 #[] w fun e w' => e = .returned (.pointer (some ⟨w.heap.size, 0, none⟩)) ∧ BagSt w' w.heap.size none 0 0 [] ∧ Mod none_ w w' := by
  have hb := Blk.new w 67 #[.slice none 0 0]
  replace hb := Lib.hid hb
  go_enter Tryz.func5, Tryz.ntmps5
  go_wp2_with fail
  go_ret
  exact ⟨rfl, ⟨hb.out, Ow.nil _ _ _, (fun h => by obtain ⟨a, ha, _⟩ := h; cases ha)⟩, (Mod.refl none_ w).alloc _⟩
theorem bagLen_ok (w : World) (p : Nat) (A : Option Addr) (n c : Nat) (xs : List Ms) (h : BagSt w p A n c xs) : Calls Tryz.prog 15 #[.pointer (some ⟨p, 0, none⟩)] w fun e w' => e = .returned (.int .i64 (n : Int)) ∧ w = w' := by
  have c0 : w.cell? ⟨p, 0, none⟩ = some (.slice A n c) := h.blk.cell_ rfl
  clear h
  go_enter Tryz.func15, Tryz.ntmps15
  go_wp2_with fail
  go_ret
  exact ⟨rfl, rfl⟩
theorem bagLen_nil (w : World) : Calls Tryz.prog 15 #[.pointer none] w fun e w' => e = .returned (.int .i64 0) ∧ w = w' := by
  go_enter Tryz.func15, Tryz.ntmps15
  go_wp2_with fail
  go_ret
  exact ⟨rfl, rfl⟩
theorem bagAll_ok (w : World) (p : Nat) (A : Option Addr) (n c : Nat) (xs : List Ms) (h : BagSt w p A n c xs) (hn : n ≤ 100000000) : Calls Tryz.prog 19 #[.pointer (some ⟨p, 0, none⟩)] w fun e w' =>
    ∃ A' c', e = .returned (.slice A' n c') ∧ OwM w' A' n c' xs ∧ Fresh w A' ∧ Mod none_ w w' := by
  have c0 : w.cell? ⟨p, 0, none⟩ = some (.slice A n c) := h.blk.cell_ rfl
  have kc := Lib.hid (cloneM_ok w xs A n c h.ow.rd hn)
  clear h
  go_enter Tryz.func19, Tryz.ntmps19
  go_wp2_with fail
  refine kc.out.mono ?_
  rintro e w1 ⟨A', c', rfl, h1, h2, h3⟩
  dsimp only
  replace h1 := Lib.hid h1
  replace h2 := Lib.hid h2
  replace h3 := Lib.hid h3
  go_wp2_with fail
  go_ret
  exact ⟨A', c', rfl, h1.out, h2.out, h3.out⟩
theorem bagAll_nil (w : World) : Calls Tryz.prog 19 #[.pointer none] w fun e w' => e = .returned (.slice none 0 0) ∧ w = w' := by
  go_enter Tryz.func19, Tryz.ntmps19
  go_wp2_with fail
  go_ret
  exact ⟨rfl, rfl⟩
theorem mss_take (xs : List Ms) (k : Nat) (hk : k ≤ xs.length) : (mss xs).take (k * 20) = mss (xs.take k) := by
  have h0 : mss xs = mss (xs.take k) ++ mss (xs.drop k) := by rw [← mss_append, List.take_append_drop]
  rw [h0]
  have hl : (mss (xs.take k)).length = k * 20 := by rw [mss_length, List.length_take, Nat.min_eq_left hk]
  rw [List.take_append, hl, List.take_of_length_le (by omega)]
  simp
theorem mss_drop (xs : List Ms) (k : Nat) (hk : k ≤ xs.length) : (mss xs).drop (k * 20) = mss (xs.drop k) := by
  have h0 : mss xs = mss (xs.take k) ++ mss (xs.drop k) := by rw [← mss_append, List.take_append_drop]
  rw [h0]
  have hl : (mss (xs.take k)).length = k * 20 := by rw [mss_length, List.length_take, Nat.min_eq_left hk]
  rw [List.drop_append, hl, List.drop_of_length_le (by omega)]
  simp
theorem RdM.len {w : World} {A : Option Addr} {n : Nat} {xs : List Ms} (h : RdM w A n xs) : xs.length = n := by have := h.1; rw [mss_length] at this; omega
theorem rdM_take {w : World} {A : Option Addr} {n : Nat} {xs : List Ms} (h : RdM w A n xs) {k : Nat} (hk : k ≤ n) : RdM w A k (xs.take k) := by
  have := Rd.take_ h hk
  rw [mss_take xs k (by rw [h.len]; exact hk)] at this
  exact this
theorem rdM_drop {w : World} {A : Option Addr} {n c : Nat} {xs : List Ms} (h : RdM w A n xs) {k : Nat} (hk : k ≤ n) (hc : n ≤ c) : RdM w (if c = k then A else A.map (·.add (k * 20))) (n - k) (xs.drop k) := by
  have := Rd.drop_ h hk hc
  rw [mss_drop xs k (by rw [h.len]; exact hk)] at this
  exact this
theorem step_appM {w : World} {ops : Array Oper} {o : Oper} {a : Act} {K : Act → World → Prop} {Q : Exit → Act → World → Prop} {E : Prop} (hgd : o.guard = none) (s x : Operand)
    (ho : o.op = .call { callee := .builtin .append, args := #[s, x], argTypes := #[27, 27] })
    {A : Option Addr} {n c : Nat} {xs : List Ms} (hs : a.eval s = .slice A n c) (hown : OwM w A n c xs)
    {S : Option Addr} {m d : Nat} {news : List Ms} (hx : a.eval x = .slice S m d) (hr : RdM w S m news) (hb : (n + m) * 216 ≤ 140737488355328)
    (h : ∀ A' c' w', OwM w' A' (n + m) c' (xs ++ news) → Mod (fp A) w w' → (A' = A ∨ A' = some ⟨w.heap.size, 0, none⟩) → K (a.put o.dst (.slice A' (n + m) c')) w') : if Region.wanted o (yielded ops a.tmps) = true then Oper.wp Tryz.prog o a w K Q else E := by
  obtain ⟨i0, hi, hz0, hz1, hz2⟩ := info_parts msinfo
  refine step_append_ow hgd s x 27 ho 46 i0 _ 20 216 Tryz.underlying27 hi hz0 hz1 hz2 rfl (by omega) A n c (mss xs) hs hown S m d (mss news) hx hr (mss_one _) (by omega) (by omega) ?_
  intro A' c' w' h1
  rw [← mss_append] at h1
  exact h A' c' w' h1
/-- how many are put -/
def putN (m n : Nat) : Nat := min m (400 - n)
def PutPost (w : World) (p : Nat) (A : Option Addr) (n : Nat) (xs ys : List Ms) (v : Int) (e : Ending) (w' : World) : Prop :=
  ∃ A' c', e = .returned (.int .i64 v) ∧ BagSt w' p A' (n + putN ys.length n) c' (xs ++ ys.take (putN ys.length n)) ∧ Mod (bagF p A) w w' ∧ ∀ k, fp A' k → fp A k ∨ w.heap.size ≤ k
set_option maxRecDepth 100000 in
set_option maxHeartbeats 4000000 in
theorem bagput_ok (w : World) (p : Nat) (A : Option Addr) (n c : Nat) (xs : List Ms) (h : BagSt w p A n c xs) (hn : n ≤ 400) (B : Option Addr) (m d : Nat) (ys : List Ms) (hy : RdM w B m ys) (hmd : m ≤ d) (hm : m ≤ 100000000) :
    Calls Tryz.prog 28 #[.pointer (some ⟨p, 0, none⟩), .slice B m d] w (PutPost w p A n xs ys (putN ys.length n : Nat)) := by
  have hl : ys.length = m := by have := hy.1; rw [mss_length] at this; omega
  rw [hl]
  have c0 : w.cell? ⟨p, 0, none⟩ = some (.slice A n c) := h.blk.cell_ rfl
  have f0 : w.frozen? ⟨p, 0, none⟩ = false := h.blk.frozen 0
  obtain ⟨q, hq⟩ : ∃ q, q = putN m n := ⟨_, rfl⟩
  have hq1 : q ≤ m := by rw [hq]; unfold putN; omega
  have hq2 : n + q ≤ 400 := by rw [hq]; unfold putN; omega
  have hqi : min (m : Int) (400 - (n : Int)) = (q : Int) := by rw [hq]; unfold putN; omega
  have hbh := Lib.hid h
  have hyt := Lib.hid (rdM_take hy hq1)
  have hcn := h.ow.2.1
  have hcm : c ≤ maxLen := h.ow.2.2.1
  have hcm2 : c ≤ 9223372036854775807 := by simp only [maxLen] at hcm; omega
  have hpl := Lib.hid h.blk.lt
  rw [← hq]
  replace hq := Lib.hid hq
  replace hy := Lib.hid hy
  replace hl := Lib.hid hl
  replace hcm := Lib.hid hcm
  clear h
  go_enter Tryz.func28, Tryz.ntmps28
  go_wp2_with fail
  refine wp_region_held_drew (S := fun _ => True) (by kernel_rfl) trivial (fun hHeld => ?_)
  refine wpAnyH_take (i := 0) (v := ?_) rfl (by kernel_rfl) (by kernel_rfl) (by kernel_rfl) (fun _ _ _ h => h) (Or.inl ⟨by rfl, ?_⟩) (by assumption) ?_
  rotate_left
  · intro W hSw; (try dsimp only at hSw); go_simp; (try with_reducible rfl)
  try simp only [Act.put, List.getElem_toArray, List.getElem_cons_zero, List.getElem_cons_succ, List.setIfInBounds_toArray, List.set_cons_zero, List.set_cons_succ]
  refine wpAnyH_take (i := 1) (v := ?_) rfl (by kernel_rfl) (by kernel_rfl) (by kernel_rfl) (fun _ _ _ h => h) (Or.inl ⟨by rfl, ?_⟩) (by assumption) ?_
  rotate_left
  · intro W hSw; (try dsimp only at hSw); go_simp; (try with_reducible rfl)
  try simp only [Act.put, List.getElem_toArray, List.getElem_cons_zero, List.getElem_cons_succ, List.setIfInBounds_toArray, List.set_cons_zero, List.set_cons_succ]
  refine wpAnyH_take (i := 2) (v := ?_) rfl (by kernel_rfl) (by kernel_rfl) (by kernel_rfl) (fun _ _ _ h => h) (Or.inl ⟨by rfl, ?_⟩) (by assumption) ?_
  rotate_left
  · intro W hSw; (try dsimp only at hSw); go_simp; (try with_reducible rfl)
  try simp only [Act.put, List.getElem_toArray, List.getElem_cons_zero, List.getElem_cons_succ, List.setIfInBounds_toArray, List.set_cons_zero, List.set_cons_succ]
  refine wpAnyH_take (i := 3) (v := ?_) rfl (by kernel_rfl) (by kernel_rfl) (by kernel_rfl) (fun _ _ _ h => h) (Or.inl ⟨by rfl, ?_⟩) (by assumption) ?_
  rotate_left
  · intro W hSw; (try dsimp only at hSw); go_simp; (try with_reducible rfl)
  try simp only [Act.put, List.getElem_toArray, List.getElem_cons_zero, List.getElem_cons_succ, List.setIfInBounds_toArray, List.set_cons_zero, List.set_cons_succ]
  refine wpAnyH_take (i := 5) (v := ?_) rfl (by kernel_rfl) (by kernel_rfl) (by kernel_rfl) (fun _ _ _ h => h) (Or.inl ⟨by rfl, ?_⟩) (by assumption) ?_
  rotate_left
  · intro W hSw; (try dsimp only at hSw); go_simp; (try with_reducible rfl)
  try simp only [Act.put, List.getElem_toArray, List.getElem_cons_zero, List.getElem_cons_succ, List.setIfInBounds_toArray, List.set_cons_zero, List.set_cons_succ]
  refine wpAnyH_take (i := 6) (v := ?_) rfl (by kernel_rfl) (by kernel_rfl) (by kernel_rfl) (fun _ _ _ h => h) (Or.inl ⟨by rfl, ?_⟩) (by assumption) ?_
  rotate_left
  · intro W hSw; (try dsimp only at hSw); go_simp; (try with_reducible rfl)
  try simp only [Act.put, List.getElem_toArray, List.getElem_cons_zero, List.getElem_cons_succ, List.setIfInBounds_toArray, List.set_cons_zero, List.set_cons_succ]
  refine wpAnyH_take (i := 7) (v := ?_) rfl (by kernel_rfl) (by kernel_rfl) (by kernel_rfl) (fun _ _ _ h => h) (Or.inl ⟨by rfl, ?_⟩) (by assumption) ?_
  rotate_left
  · intro W hSw; have hqd := Nat.le_trans hq1 hmd; go_simp; (try with_reducible rfl)
  try simp only [Act.put, List.getElem_toArray, List.getElem_cons_zero, List.getElem_cons_succ, List.setIfInBounds_toArray, List.set_cons_zero, List.set_cons_succ]
  refine wpAnyH_ready (rs := [4]) (by kernel_rfl) (by simp) ?_
  refine AllReadyH.cons rfl (fun K hK => ?_) AllReadyH.nil
  go_simp
  refine hK.out _ _ (trivial) (fun hHeld => ?_)
  clear hK K
  try simp only [Act.put, List.getElem_toArray, List.getElem_cons_zero, List.getElem_cons_succ, List.setIfInBounds_toArray, List.set_cons_zero, List.set_cons_succ]
  refine wpAnyH_ready (rs := [8]) (by kernel_rfl) (by simp) ?_
  refine AllReadyH.cons rfl (fun K hK => ?_) AllReadyH.nil
  refine step_appM rfl (.tmp 19) (.tmp 22) rfl rfl (hbh.out.ow.mod0 (Mod.refl none_ w).drew) rfl (Rd.mod0 hyt.out (Mod.refl none_ w).drew) (by omega) ?_
  intro A' c' w' ho hmA hA
  have hb' : Blk w' p 67 #[.slice A n c] := (hbh.out.blk.drew).mod hmA hbh.out.np
  have c1 : w'.cell? ⟨p, 0, none⟩ = some (.slice A n c) := hb'.cell_ rfl
  have f1 : w'.frozen? ⟨p, 0, none⟩ = false := hb'.frozen 0
  have hnp' : Hid (¬ fp A' p) := Lib.hid (by
    rcases hA with rfl | rfl
    · exact hbh.out.np
    · rintro ⟨a, ha, hk⟩; cases ha; have := hpl.out; simp only [World.size_drew] at hk; omega)
  have hfr : Hid (∀ k, fp A' k → fp A k ∨ w.heap.size ≤ k) := Lib.hid (by
    rcases hA with rfl | rfl
    · exact fun k hk => .inl hk
    · rintro k ⟨a, ha, rfl⟩; cases ha; exact .inr (Nat.le_refl _))
  have hmA2 := Lib.hid (((Mod.refl (bagF p A) w).drew).trans (hmA.mono (G := bagF p A) (fun k hk => .inr hk)))
  replace ho := Lib.hid ho
  replace hb' := Lib.hid hb'
  clear hmA hA
  refine hK.out _ _ (trivial) (fun hHeld => ?_)
  clear hK K
  try simp only [Act.put, List.getElem_toArray, List.getElem_cons_zero, List.getElem_cons_succ, List.setIfInBounds_toArray, List.set_cons_zero, List.set_cons_succ]
  refine wpAnyH_take (i := 9) (v := ?_) rfl (by kernel_rfl) (by kernel_rfl) (by kernel_rfl) (fun _ _ _ h => h) (Or.inl ⟨by rfl, ?_⟩) (by assumption) ?_
  rotate_left
  · intro W hSw; (try dsimp only at hSw); go_simp; (try with_reducible rfl)
  try simp only [Act.put, List.getElem_toArray, List.getElem_cons_zero, List.getElem_cons_succ, List.setIfInBounds_toArray, List.set_cons_zero, List.set_cons_succ]
  refine wpAnyH_take (i := 10) (v := ?_) rfl (by kernel_rfl) (by kernel_rfl) (by kernel_rfl) (fun _ _ _ h => h) (Or.inl ⟨by rfl, ?_⟩) (by assumption) ?_
  rotate_left
  · intro W hSw; (try dsimp only at hSw); go_simp; (try with_reducible rfl)
  try simp only [Act.put, List.getElem_toArray, List.getElem_cons_zero, List.getElem_cons_succ, List.setIfInBounds_toArray, List.set_cons_zero, List.set_cons_succ]
  refine wpAnyH_ready (rs := [11]) (by kernel_rfl) (by simp) ?_
  refine AllReadyH.cons rfl (fun K hK => ?_) AllReadyH.nil
  go_simp
  refine hK.out _ _ (trivial) (fun hHeld => ?_)
  clear hK K
  try simp only [Act.put, List.getElem_toArray, List.getElem_cons_zero, List.getElem_cons_succ, List.setIfInBounds_toArray, List.set_cons_zero, List.set_cons_succ]
  refine wpAnyH_done (by kernel_rfl) ?_ _
  clear hHeld c1 f1
  go_wp2_with fail
  go_ret
  unfold PutPost
  rw [show putN ys.length n = q by rw [hl.out, hq.out]]
  exact ⟨A', c', rfl, ⟨hb'.out.set_ 0 _, ho.out.mod ((Mod.refl (only p) w').set_only 0 _) (fun k hk hh => by have : k = p := hh; subst this; exact hnp'.out hk), hnp'.out⟩, hmA2.out.setCell (p := ⟨p, 0, none⟩) (.inl (.inl rfl)) _, hfr.out⟩
theorem bagF_none (p : Nat) : ∀ k, bagF p none k → k = p := by
  rintro k (h | ⟨a, ha, _⟩)
  · exact h
  · cases ha
set_option maxRecDepth 100000 in
set_option maxHeartbeats 4000000 in
theorem bagPut_ok (w : World) (p : Nat) (A : Option Addr) (n c : Nat) (xs : List Ms) (h : BagSt w p A n c xs) (hn : n ≤ 400) (B : Option Addr) (m d : Nat) (ys : List Ms) (hy : RdM w B m ys) (hE : MsM w ys) (hk : ∀ x ∈ ys, MsOk x) (hm : m ≤ 100000000) :
    Calls Tryz.prog 7 #[.pointer (some ⟨p, 0, none⟩), .slice B m d] w (PutPost w p A n xs (ys.filter RtM) ((m : Int) - (putN (ys.filter RtM).length n : Nat))) := by
  have kC := Lib.hid (cloneM_ok w ys B m d hy hm)
  have hfl : (ys.filter RtM).length ≤ m := by have := hy.len; have := List.length_filter_le RtM ys; omega
  have hbh := Lib.hid h
  have hpn : putN (ys.filter RtM).length n ≤ m := by unfold putN; omega
  clear h
  replace hE := Lib.hid hE
  replace hk := Lib.hid hk
  replace hy := Lib.hid hy
  go_enter Tryz.func7, Tryz.ntmps7
  go_wp2_with fail
  refine kC.out.mono ?_
  rintro e w1 ⟨A1, c1, rfl, ho1, hf1, hm1⟩
  dsimp only
  have hE1 := hE.out.mod0 hm1
  have hF1 : FarsM (fp A1) ys := fun x hx => farM_new (hE.out x hx) (fun k hk => by obtain ⟨a, ha, rfl⟩ := hk; exact hf1 a ha)
  have kD := Lib.hid (deleteM_ok w1 A1 m c1 ys ho1 hE1 hF1 hk.out hm)
  have hb1 := hbh.out.mod0 hm1
  have hap : ∀ k, fp A1 k → ¬ bagF p A k := by
    rintro k ⟨a, ha, rfl⟩ (hh | hh)
    · have := hf1 a ha; have := hbh.out.blk.lt; omega
    · have := hf1 a ha; have := hbh.out.ow.lt _ hh; omega
  clear hE1 hF1 ho1
  replace hf1 := Lib.hid hf1
  replace hm1 := Lib.hid hm1
  replace hb1 := Lib.hid hb1
  replace hap := Lib.hid hap
  go_wp2_with fail
  with_reducible refine kD.out.mono ?_
  rintro e w2 ⟨m2, rfl, ho2, hm2⟩
  dsimp only
  have hl2 := ho2.len
  subst hl2
  have hb2 := hb1.out.mod hm2 (fun hh => hap.out p hh (.inl rfl)) (fun k hk hh => hap.out k hh (.inr hk))
  have kP := Lib.hid (bagput_ok w2 p A n c xs hb2 hn A1 _ c1 (ys.filter RtM) ho2.rd ho2.2.1 (by omega))
  have hM2 := Lib.hid (hm1.out.then hm2 (fun i hi hk => by obtain ⟨a, ha, rfl⟩ := hk; have := hf1.out a ha; omega))
  clear hb2 ho2 hm2
  generalize (ys.filter RtM).length = m2 at *
  go_wp2_with fail
  with_reducible refine kP.out.mono ?_
  rintro e w3 ⟨A3, c3, rfl, hb3, hm3, hfr3⟩
  dsimp only
  replace hb3 := Lib.hid hb3
  replace hm3 := Lib.hid hm3
  replace hfr3 := Lib.hid hfr3
  go_wp2_with fail
  go_ret
  refine ⟨A3, c3, rfl, hb3.out, (hM2.out.any _).trans hm3.out, fun k hk => ?_⟩
  rcases hfr3.out k hk with h1 | h1
  · exact .inl h1
  · exact .inr (Nat.le_trans hM2.out.size h1)
set_option maxRecDepth 100000 in
theorem bagPut_nil (w : World) (B : Option Addr) (m d : Nat) : Calls Tryz.prog 7 #[.pointer none, .slice B m d] w fun e w' => e = .returned (.int .i64 (m : Int)) ∧ w = w' := by
  go_enter Tryz.func7, Tryz.ntmps7
  go_wp2_with fail
  go_ret
  exact ⟨rfl, rfl⟩
end Go.Proofs.YtdekehhmjehicaaGreat
/-
  The bag: Look; slices.Delete of one message. No condition.
-/
namespace Go.Proofs.YtdekehhmjehicaaGreat
set_option linter.unusedVariables false
set_option linter.unusedSimpArgs false
open Go.RowKit
def lookR (xs : List Ms) (k : Int) : Option Ms := if 0 ≤ k then xs[k.toNat]? else none
def zeroMs : Ms := ⟨⟨0, 0, 0, ⟨⟨0, 0⟩, 0, 0, 0, en0⟩⟩, ⟨none, 0, 0⟩, ⟨none, 0, 0⟩⟩
/-- what Look tells: the message, or a zero one -/
def LookV (xs : List Ms) (k : Int) (v : Value) : Prop :=
  (∃ x, lookR xs k = some x ∧ v = .tuple #[.agg #[.int .i64 x.m.frm, .int .i64 x.m.to, .int .i64 x.m.kind, .int .i64 x.m.r.i.r, .int .i64 x.m.r.i.n, .int .i64 x.m.r.bal, .int .i64 x.m.r.st, .int .i64 x.m.r.by_, .int .i64 x.m.r.e.o.c, .int .i64 x.m.r.e.o.s, .int .i64 x.m.r.e.o.k, .string (txt x.m.r.e.o.acct), .string (txt x.m.r.e.o.peer), .int .i64 x.m.r.e.o.sum, .slice x.L.a x.L.n x.L.c, .int .i64 x.m.r.e.o.per, .int .i64 x.m.r.e.o.hold, .string (txt x.m.r.e.o.note), .bool x.m.r.e.none, .slice x.D.a x.D.n x.D.c], .bool true]) ∨ (lookR xs k = none ∧ v = .tuple #[.agg #[.int .i64 0, .int .i64 0, .int .i64 0, .int .i64 0, .int .i64 0, .int .i64 0, .int .i64 0, .int .i64 0, .int .i64 0, .int .i64 0, .int .i64 0, .string ⟨#[]⟩, .string ⟨#[]⟩, .int .i64 0, .slice none 0 0, .int .i64 0, .int .i64 0, .string ⟨#[]⟩, .bool false, .slice none 0 0], .bool false])
set_option maxRecDepth 100000 in
set_option maxHeartbeats 4000000 in
theorem bagLook_ok (w : World) (p : Nat) (A : Option Addr) (n c : Nat) (xs : List Ms) (h : BagSt w p A n c xs) (k : Int) :
    Calls Tryz.prog 14 #[.pointer (some ⟨p, 0, none⟩), .int .i64 k] w fun e w' => ∃ v, e = .returned v ∧ LookV xs k v ∧ Mod none_ w w' := by
  have hl := h.len
  have hb0 := Lib.hid (Blk.new w 46 #[.int .i64 0, .int .i64 0, .int .i64 0, .int .i64 0, .int .i64 0, .int .i64 0, .int .i64 0, .int .i64 0, .int .i64 0, .int .i64 0, .int .i64 0, .string ⟨#[]⟩, .string ⟨#[]⟩, .int .i64 0, .slice none 0 0, .int .i64 0, .int .i64 0, .string ⟨#[]⟩, .bool false, .slice none 0 0])
  have hm0 := (Mod.refl none_ w).alloc (.cells #[.int .i64 0, .int .i64 0, .int .i64 0, .int .i64 0, .int .i64 0, .int .i64 0, .int .i64 0, .int .i64 0, .int .i64 0, .int .i64 0, .int .i64 0, .string ⟨#[]⟩, .string ⟨#[]⟩, .int .i64 0, .slice none 0 0, .int .i64 0, .int .i64 0, .string ⟨#[]⟩, .bool false, .slice none 0 0] 46)
  have h0 := h.mod0 hm0
  have kL := Lib.hid (bagLen_ok _ p A n c xs h0)
  have c0 : (w.alloc (.cells #[.int .i64 0, .int .i64 0, .int .i64 0, .int .i64 0, .int .i64 0, .int .i64 0, .int .i64 0, .int .i64 0, .int .i64 0, .int .i64 0, .int .i64 0, .string ⟨#[]⟩, .string ⟨#[]⟩, .int .i64 0, .slice none 0 0, .int .i64 0, .int .i64 0, .string ⟨#[]⟩, .bool false, .slice none 0 0] 46)).cell? ⟨p, 0, none⟩ = some (.slice A n c) := h0.blk.cell_ rfl
  have c1 : w.cell? ⟨p, 0, none⟩ = some (.slice A n c) := h.blk.cell_ rfl
  have hpl := h.blk.lt
  replace hm0 := Lib.hid hm0
  replace hpl := Lib.hid hpl
  by_cases hk : k < 0
  · have hr : Hid (lookR xs k = none) := Lib.hid (by unfold lookR; rw [if_neg (by omega)])
    replace h := Lib.hid h
    replace h0 := Lib.hid h0
    go_enter Tryz.func14, Tryz.ntmps14
    go_wp2_with (refine wpList_store_blk rfl 46 (.tmp 4) (.tmp 14) rfl w.heap.size 0 _ rfl rfl hb0.out (by simp) msg_size (by rfl) #[.int .i64 0, .int .i64 0, .int .i64 0, .int .i64 0, .int .i64 0, .int .i64 0, .int .i64 0, .int .i64 0, .int .i64 0, .int .i64 0, .int .i64 0, .string ⟨#[]⟩, .string ⟨#[]⟩, .int .i64 0, .slice none 0 0, .int .i64 0, .int .i64 0, .string ⟨#[]⟩, .bool false, .slice none 0 0] rfl ?_; intro w2 hb2 hm2; replace hb2 := Lib.hid hb2; replace hm2 := Lib.hid hm2)
    refine ret_row_tmp rfl w.heap.size rfl hb2.out Tryz.underlying46 rfl msg_size (.bool false) rfl rfl ?_
    exact ⟨_, rfl, .inr ⟨hr.out, rfl⟩, hm0.out.in_new (Nat.le_refl _) hm2.out⟩
  · obtain ⟨j, rfl⟩ : ∃ j : Nat, k = (j : Int) := ⟨k.toNat, by omega⟩
    by_cases hj : j < n
    · obtain ⟨b, o, x, rfl, hxm, hx, hrg⟩ := rdm_get (w := w) h.ow.rd hj
      have hr : Hid (lookR xs (j : Int) = some x) := Lib.hid (by unfold lookR; rw [if_pos (by omega)]; simpa using hx)
      have hrg1 : (w.alloc (.cells #[.int .i64 0, .int .i64 0, .int .i64 0, .int .i64 0, .int .i64 0, .int .i64 0, .int .i64 0, .int .i64 0, .int .i64 0, .int .i64 0, .int .i64 0, .string ⟨#[]⟩, .string ⟨#[]⟩, .int .i64 0, .slice none 0 0, .int .i64 0, .int .i64 0, .string ⟨#[]⟩, .bool false, .slice none 0 0] 46)).rangeAt b (o + j * 20) (msC x) := World.rangeAt_alloc hrg _
      unfold msC at hrg1
      clear hrg
      replace hxm := Lib.hid hxm
      replace hx := Lib.hid hx
      replace hrg1 := Lib.hid hrg1
      replace h := Lib.hid h
      replace h0 := Lib.hid h0
      replace hl := Lib.hid hl
      go_enter Tryz.func14, Tryz.ntmps14
      go_wp2_with fail
      refine kL.out.mono ?_
      rintro e w1 ⟨rfl, rfl⟩
      go_wp2_with (first
        | (refine wpList_load_mid rfl 46 (.tmp 20) rfl b (o + j * 20) rfl _ _ hrg1.out Tryz.underlying46 rfl msg_size ?_)
        | (refine wpList_store_blk rfl 46 (.tmp 4) (.tmp 21) rfl w.heap.size 0 _ rfl rfl hb0.out (by simp) msg_size (by rfl) #[.int .i64 x.m.frm, .int .i64 x.m.to, .int .i64 x.m.kind, .int .i64 x.m.r.i.r, .int .i64 x.m.r.i.n, .int .i64 x.m.r.bal, .int .i64 x.m.r.st, .int .i64 x.m.r.by_, .int .i64 x.m.r.e.o.c, .int .i64 x.m.r.e.o.s, .int .i64 x.m.r.e.o.k, .string (txt x.m.r.e.o.acct), .string (txt x.m.r.e.o.peer), .int .i64 x.m.r.e.o.sum, .slice x.L.a x.L.n x.L.c, .int .i64 x.m.r.e.o.per, .int .i64 x.m.r.e.o.hold, .string (txt x.m.r.e.o.note), .bool x.m.r.e.none, .slice x.D.a x.D.n x.D.c] rfl ?_; intro w2 hb2 hm2; replace hb2 := Lib.hid hb2; replace hm2 := Lib.hid hm2))
      refine ret_row_tmp rfl w.heap.size rfl hb2.out Tryz.underlying46 rfl msg_size (.bool true) rfl rfl ?_
      exact ⟨_, rfl, .inl ⟨x, hr.out, rfl⟩, hm0.out.in_new (Nat.le_refl _) hm2.out⟩
    · have hr : Hid (lookR xs (j : Int) = none) := Lib.hid (by unfold lookR; rw [if_pos (by omega)]; simp; omega)
      replace h := Lib.hid h
      replace h0 := Lib.hid h0
      replace hl := Lib.hid hl
      go_enter Tryz.func14, Tryz.ntmps14
      go_wp2_with fail
      refine kL.out.mono ?_
      rintro e w1 ⟨rfl, rfl⟩
      go_wp2_with (refine wpList_store_blk rfl 46 (.tmp 4) (.tmp 14) rfl w.heap.size 0 _ rfl rfl hb0.out (by simp) msg_size (by rfl) #[.int .i64 0, .int .i64 0, .int .i64 0, .int .i64 0, .int .i64 0, .int .i64 0, .int .i64 0, .int .i64 0, .int .i64 0, .int .i64 0, .int .i64 0, .string ⟨#[]⟩, .string ⟨#[]⟩, .int .i64 0, .slice none 0 0, .int .i64 0, .int .i64 0, .string ⟨#[]⟩, .bool false, .slice none 0 0] rfl ?_; intro w2 hb2 hm2; replace hb2 := Lib.hid hb2; replace hm2 := Lib.hid hm2)
      refine ret_row_tmp rfl w.heap.size rfl hb2.out Tryz.underlying46 rfl msg_size (.bool false) rfl rfl ?_
      exact ⟨_, rfl, .inr ⟨hr.out, rfl⟩, hm0.out.in_new (Nat.le_refl _) hm2.out⟩
set_option maxRecDepth 100000 in
set_option maxHeartbeats 4000000 in
theorem bagLook_nil (w : World) (j : Nat) : Calls Tryz.prog 14 #[.pointer none, .int .i64 (j : Int)] w fun e w' => e = .returned (.tuple #[.agg #[.int .i64 0, .int .i64 0, .int .i64 0, .int .i64 0, .int .i64 0, .int .i64 0, .int .i64 0, .int .i64 0, .int .i64 0, .int .i64 0, .int .i64 0, .string ⟨#[]⟩, .string ⟨#[]⟩, .int .i64 0, .slice none 0 0, .int .i64 0, .int .i64 0, .string ⟨#[]⟩, .bool false, .slice none 0 0], .bool false]) ∧ Mod none_ w w' := by
  have hb0 := Lib.hid (Blk.new w 46 #[.int .i64 0, .int .i64 0, .int .i64 0, .int .i64 0, .int .i64 0, .int .i64 0, .int .i64 0, .int .i64 0, .int .i64 0, .int .i64 0, .int .i64 0, .string ⟨#[]⟩, .string ⟨#[]⟩, .int .i64 0, .slice none 0 0, .int .i64 0, .int .i64 0, .string ⟨#[]⟩, .bool false, .slice none 0 0])
  have hm0 := Lib.hid ((Mod.refl none_ w).alloc (.cells #[.int .i64 0, .int .i64 0, .int .i64 0, .int .i64 0, .int .i64 0, .int .i64 0, .int .i64 0, .int .i64 0, .int .i64 0, .int .i64 0, .int .i64 0, .string ⟨#[]⟩, .string ⟨#[]⟩, .int .i64 0, .slice none 0 0, .int .i64 0, .int .i64 0, .string ⟨#[]⟩, .bool false, .slice none 0 0] 46))
  go_enter Tryz.func14, Tryz.ntmps14
  go_wp2_with fail
  refine (bagLen_nil _).mono ?_
  rintro e w1 ⟨rfl, rfl⟩
  go_wp2_with (refine wpList_store_blk rfl 46 (.tmp 4) (.tmp 14) rfl w.heap.size 0 _ rfl rfl hb0.out (by simp) msg_size (by rfl) #[.int .i64 0, .int .i64 0, .int .i64 0, .int .i64 0, .int .i64 0, .int .i64 0, .int .i64 0, .int .i64 0, .int .i64 0, .int .i64 0, .int .i64 0, .string ⟨#[]⟩, .string ⟨#[]⟩, .int .i64 0, .slice none 0 0, .int .i64 0, .int .i64 0, .string ⟨#[]⟩, .bool false, .slice none 0 0] rfl ?_; intro w2 hb2 hm2; replace hb2 := Lib.hid hb2; replace hm2 := Lib.hid hm2)
  refine ret_row_tmp rfl w.heap.size rfl hb2.out Tryz.underlying46 rfl msg_size (.bool false) rfl rfl ?_
  exact ⟨rfl, hm0.out.in_new (Nat.le_refl _) hm2.out⟩
end Go.Proofs.YtdekehhmjehicaaGreat
/-
  slices.Delete of one message; the bag: Take, Twice. No condition.
-/
namespace Go.Proofs.YtdekehhmjehicaaGreat
set_option linter.unusedVariables false
set_option linter.unusedSimpArgs false
open Go.RowKit
/-- append into a row that has room -/
theorem run_append_fit {P : Program} (w : World) (t ty e : TypeId) (i : TypeInfo) (size : Nat) (ht : P.underlying t = some (.slice e)) (hi : P.info? e = some i) (hsize : i.size = size)
    (g n c : Nat) (xs : List Value) (hown : Ow w e size (some ⟨g, 0, none⟩) n c xs) (S : Option Addr) (m d : Nat) (news : List Value) (hr : Rd w size S m news) (h1 : ∀ u ∈ news, u.oneCell' = true) (hroom : n + m ≤ c) :
    ∃ w', (Builtin.append_ #[t, t] ty #[.slice (some ⟨g, 0, none⟩) n c, .slice S m d]).run P w = .ok (.slice (some ⟨g, 0, none⟩) (n + m) c) w' ∧ Ow w' e size (some ⟨g, 0, none⟩) (n + m) c (xs ++ news) ∧ Mod (fp (some (⟨g, 0, none⟩ : Addr))) w w' := by
  subst hsize
  have hlen : (xs ++ news).length = (n + m) * i.size := by rw [List.length_append, hown.1, hr.1, Nat.add_mul]
  obtain ⟨hx1, hnc, hcm, hcase⟩ := hown
  rcases hcase with ⟨h0, _⟩ | ⟨g', cur, h0, hb, h5, h6⟩
  · cases h0
  cases h0
  by_cases hm : m = 0
  · subst hm
    have hn : news = [] := List.eq_nil_of_length_eq_zero (by simpa using hr.1)
    subst hn
    have hf : ∀ S : Option Addr, (Builtin.firstCells i.size 0 (.slice S 0 d)).run P w = .ok #[] w := by
      intro S; cases S <;> simp [Builtin.firstCells, loadCells, loadCellsFrom]
    have hrun : (Builtin.append_ #[t, t] ty #[.slice (some ⟨g, 0, none⟩) n c, .slice S 0 d]).run P w = .ok (.slice (some ⟨g, 0, none⟩) n c) w := by
      simp [Builtin.append_, run_underlying ht, sizeOf, typeInfo, hi, Builtin.lenOf, hf, hnc, storeCells]
    refine ⟨w, by simpa using hrun, ?_, Mod.refl _ w⟩
    simp only [Nat.add_zero, List.append_nil]
    exact ⟨hx1, hnc, hcm, .inr ⟨g, cur, rfl, hb, h5, h6⟩⟩
  · obtain ⟨ad, rfl, hnews⟩ := hr.2 (by omega)
    have hfit : n * i.size + news.length ≤ cur.size := by
      rw [hr.1, ← Nat.add_mul]
      exact Nat.le_trans (Nat.mul_le_mul_right _ hroom) h5
    have hrun := run_append_room (P := P) w t ty e i ht hi g n c cur hb ad m d news hr.1 hnews h1 hroom hfit
    refine ⟨_, hrun, ⟨hlen, hroom, hcm, .inr ⟨g, _, rfl, setRow_heap w g cur _ e _ hb, ?_, ?_⟩⟩, ⟨rfl, rfl, rfl, by simp, fun k hk hf => setRow_other w g k _ (fun e => hf ⟨_, rfl, e.symm⟩)⟩⟩
    · simp only [List.size_toArray, List.length_append, List.length_take, List.length_drop, Array.length_toList]
      omega
    · rw [h6, ← hlen]
      exact List.take_left
theorem run_appM_fit (w : World) (ty : TypeId) {g n c : Nat} {xs : List Ms} (hown : OwM w (some ⟨g, 0, none⟩) n c xs) {S : Option Addr} {m : Nat} (d : Nat) {news : List Ms} (hr : RdM w S m news) (hroom : n + m ≤ c) :
    ∃ w', (Builtin.append_ #[27, 27] ty #[.slice (some ⟨g, 0, none⟩) n c, .slice S m d]).run Tryz.prog w = .ok (.slice (some ⟨g, 0, none⟩) (n + m) c) w' ∧ OwM w' (some ⟨g, 0, none⟩) (n + m) c (xs ++ news) ∧ Mod (fp (some (⟨g, 0, none⟩ : Addr))) w w' := by
  obtain ⟨i0, hi, hz0, hz1, hz2⟩ := info_parts msinfo
  obtain ⟨w', h1, h2, h3⟩ := run_append_fit (P := Tryz.prog) w 27 ty 46 i0 20 Tryz.underlying27 hi hz1 g n c (mss xs) hown S m d (mss news) hr (mss_one _) hroom
  rw [← mss_append] at h2
  exact ⟨w', h1, h2, h3⟩
theorem Ow.widen {w : World} {e : TypeId} {size n c g : Nat} {xs : List Value} (h : Ow w e size (some ⟨g, 0, none⟩) n c xs) {N : Nat} (hn : n ≤ N) (hN : N ≤ c) : ∃ xs', Ow w e size (some ⟨g, 0, none⟩) N c xs' ∧ xs'.take (n * size) = xs := by
  obtain ⟨h1, h2, h3, h4⟩ := h
  rcases h4 with ⟨h0, _⟩ | ⟨g', cur, h0, hb, h5, h6⟩
  · cases h0
  cases h0
  have hNc : N * size ≤ c * size := Nat.mul_le_mul_right _ hN
  have hnN : n * size ≤ N * size := Nat.mul_le_mul_right _ hn
  refine ⟨cur.toList.take (N * size), ⟨by rw [List.length_take, Array.length_toList]; omega, hN, h3, .inr ⟨g, cur, rfl, hb, h5, rfl⟩⟩, ?_⟩
  rw [List.take_take, Nat.min_eq_left hnN, h6]
/-- 'clear' behind the end -/
theorem clearM_behind {w : World} (ty : TypeId) {g n c : Nat} {xs : List Ms} (hown : OwM w (some ⟨g, 0, none⟩) n c xs) (m : Nat) (hm : n + m ≤ c) (S : Option Addr) (d : Nat) (hS : 0 < m → S = some ⟨g, n * 20, none⟩) :
    ∃ w', (Builtin.clear_ #[27] ty #[.slice S m d]).run Tryz.prog w = .ok (.tuple #[]) w' ∧ OwM w' (some ⟨g, 0, none⟩) n c xs ∧ Mod (fp (some (⟨g, 0, none⟩ : Addr))) w w' := by
  obtain ⟨xs', h1, h2⟩ := Ow.widen hown (N := n + m) (by omega) hm
  obtain ⟨w', r1, r2, r3⟩ := run_clear_ow (P := Tryz.prog) w 27 46 ty zeroM 20 Tryz.underlying27 zeroM_run rfl (fun v hv => List.all_eq_true.1 (show zeroM.cells.toList.all (·.oneCell') = true from rfl) v hv) (by omega) _ (n + m) c xs' h1 n (by omega) S m d (by omega) (fun h0 => by rw [hS h0]; simp only [Option.map_some, add_lit])
  rw [h2] at r2
  exact ⟨w', r1, r2, r3⟩
theorem step_appM_fit {w : World} {ops : Array Oper} {o : Oper} {a : Act} {K : Act → World → Prop} {Q : Exit → Act → World → Prop} {E : Prop} (hgd : o.guard = none) (s x : Operand)
    (ho : o.op = .call { callee := .builtin .append, args := #[s, x], argTypes := #[27, 27] })
    {g n c : Nat} {xs : List Ms} (hs : a.eval s = .slice (some ⟨g, 0, none⟩) n c) (hown : OwM w (some ⟨g, 0, none⟩) n c xs)
    {S : Option Addr} {m d : Nat} {news : List Ms} (hx : a.eval x = .slice S m d) (hr : RdM w S m news) (hroom : n + m ≤ c)
    (h : ∀ w', OwM w' (some ⟨g, 0, none⟩) (n + m) c (xs ++ news) → Mod (fp (some (⟨g, 0, none⟩ : Addr))) w w' → K (a.put o.dst (.slice (some ⟨g, 0, none⟩) (n + m) c)) w') : if Region.wanted o (yielded ops a.tmps) = true then Oper.wp Tryz.prog o a w K Q else E := by
  have hw : Region.wanted o (yielded ops a.tmps) = true := by simp [Region.wanted, hgd]
  rw [if_pos hw]
  obtain ⟨w', hrun, h2, h3⟩ := run_appM_fit w o.type hown d hr hroom
  unfold Oper.wp execOp
  simp only [ho, resolve, invoke, builtin, Sem.run_bind, Sem.run_pure, Result.andThen_ok, List.map_toArray, List.map_cons, List.map_nil, hs, hx, hrun]
  exact h w' h2 h3
set_option maxRecDepth 100000 in
set_option maxHeartbeats 4000000 in
theorem delete1_ok (w : World) (A : Option Addr) (k r d : Nat) (xs : List Ms) (h : OwM w A (k + 1 + r) (k + 1 + d) xs) (hn : k + 1 + r ≤ 400) :
    Calls Tryz.prog 30 #[.slice A (k + 1 + r) (k + 1 + d), .int .i64 (k : Int), .int .i64 ((k : Int) + 1)] w fun e w' =>
      e = .returned (.slice A (k + r) (k + 1 + d)) ∧ OwM w' A (k + r) (k + 1 + d) (xs.take k ++ xs.drop (k + 1)) ∧ Mod (fp A) w w' := by
  obtain ⟨g, cur, rfl, hb, h5, h6⟩ := Ow.form h (show 0 < k + 1 + r by omega)
  clear hb h5 h6 cur
  have hcn : r ≤ d := by have := h.2.1; omega
  have hcm : k + 1 + d ≤ 9223372036854775807 := by have : k + 1 + d ≤ maxLen := h.2.2.1; simp only [maxLen] at this; omega
  have hl := h.len
  have ht := (h.take (k := k) (by omega)).mod0 (Mod.refl none_ w).drew
  have hd0 := rdM_drop (c := k + 1 + d) h.rd (k := k + 1) (by omega) (by omega)
  rw [show k + 1 + r - (k + 1) = r by omega] at hd0
  have hq1 : ¬ ((k : Int) = (k : Int) + 1) := by omega
  by_cases hd : d = 0
  · subst hd
    obtain rfl : r = 0 := by omega
    have hdr : RdM w.drew (some ⟨g, 0, none⟩) 0 (xs.drop (k + 1)) := by
      rw [if_pos (by omega)] at hd0
      exact hd0
    clear hd0
    replace h := Lib.hid h
    replace ht := Lib.hid ht
    replace hdr := Lib.hid hdr
    replace hl := Lib.hid hl
    go_enter Tryz.func30, Tryz.ntmps30
    go_upto_region 5 with fail
    have hb1 : (k : Int) ≤ (k : Int) + 1 := by omega
    have hb2 : 0 ≤ (k : Int) + 1 := by omega
    have hb3 : (k : Int) + 1 ≤ (k : Int) + 1 := by omega
    refine wp_region_held_drew (S := fun _ => True) (by kernel_rfl) trivial (fun hHeld => ?_)
    refine wpAnyH_take (i := 0) (v := ?_) rfl (by kernel_rfl) (by kernel_rfl) (by kernel_rfl) (fun _ _ _ h => h) (Or.inl ⟨by rfl, ?_⟩) (by assumption) ?_
    rotate_left
    · intro W hSw; (try dsimp only at hSw); go_simp; (try with_reducible rfl)
    try simp only [Act.put, List.getElem_toArray, List.getElem_cons_zero, List.getElem_cons_succ, List.setIfInBounds_toArray, List.set_cons_zero, List.set_cons_succ]
    refine wpAnyH_take (i := 1) (v := ?_) rfl (by kernel_rfl) (by kernel_rfl) (by kernel_rfl) (fun _ _ _ h => h) (Or.inl ⟨by rfl, ?_⟩) (by assumption) ?_
    rotate_left
    · intro W hSw; (try dsimp only at hSw); go_simp; (try with_reducible rfl)
    try simp only [Act.put, List.getElem_toArray, List.getElem_cons_zero, List.getElem_cons_succ, List.setIfInBounds_toArray, List.set_cons_zero, List.set_cons_succ]
    refine wpAnyH_take (i := 3) (v := ?_) rfl (by kernel_rfl) (by kernel_rfl) (by kernel_rfl) (fun _ _ _ h => h) (Or.inl ⟨by rfl, ?_⟩) (by assumption) ?_
    rotate_left
    · intro W hSw; (try dsimp only at hSw); go_simp; (try with_reducible rfl)
    try simp only [Act.put, List.getElem_toArray, List.getElem_cons_zero, List.getElem_cons_succ, List.setIfInBounds_toArray, List.set_cons_zero, List.set_cons_succ]
    refine wpAnyH_take (i := 4) (v := ?_) rfl (by kernel_rfl) (by kernel_rfl) (by kernel_rfl) (fun _ _ _ h => h) (Or.inl ⟨by rfl, ?_⟩) (by assumption) ?_
    rotate_left
    · intro W hSw; (try dsimp only at hSw); go_simp; (try with_reducible rfl)
    try simp only [Act.put, List.getElem_toArray, List.getElem_cons_zero, List.getElem_cons_succ, List.setIfInBounds_toArray, List.set_cons_zero, List.set_cons_succ]
    refine wpAnyH_take (i := 2) (v := ?_) rfl (by kernel_rfl) (by kernel_rfl) (by kernel_rfl) (fun _ _ _ h => h) (Or.inl ⟨by rfl, ?_⟩) (by assumption) ?_
    rotate_left
    · intro W hSw; (try dsimp only at hSw); go_simp; (try with_reducible rfl)
    try simp only [Act.put, List.getElem_toArray, List.getElem_cons_zero, List.getElem_cons_succ, List.setIfInBounds_toArray, List.set_cons_zero, List.set_cons_succ]
    refine wpAnyH_take (i := 5) (v := ?_) rfl (by kernel_rfl) (by kernel_rfl) (by kernel_rfl) (fun _ _ _ h => h) (Or.inl ⟨by rfl, ?_⟩) (by assumption) ?_
    rotate_left
    · intro W hSw; (try dsimp only at hSw); go_simp; (try with_reducible rfl)
    try simp only [Act.put, List.getElem_toArray, List.getElem_cons_zero, List.getElem_cons_succ, List.setIfInBounds_toArray, List.set_cons_zero, List.set_cons_succ]
    clear hb1 hb2 hb3
    refine wpAnyH_ready (rs := [6]) (by kernel_rfl) (by simp) ?_
    refine AllReadyH.cons rfl (fun K hK => ?_) AllReadyH.nil
    refine step_appM_fit rfl (.tmp 22) (.tmp 25) rfl rfl ht.out rfl hdr.out (by omega) ?_
    intro w1 ho1 hm1
    obtain ⟨w2, hrun2, ho2, hm2⟩ := clearM_behind 0 ho1 1 (by omega) (some ⟨g, (k + 0) * 20, none⟩) (1) (fun _ => rfl)
    rw [show k + 0 = k from rfl] at hrun2 ho2
    have hmm := Lib.hid (((Mod.refl (fp (some (⟨g, 0, none⟩ : Addr))) w).drew.trans hm1).trans hm2)
    clear ho1 hm1 hm2
    replace ho2 := Lib.hid ho2
    refine hK.out _ _ (trivial) (fun hHeld => ?_)
    clear hK K
    try simp only [Act.put, List.getElem_toArray, List.getElem_cons_zero, List.getElem_cons_succ, List.setIfInBounds_toArray, List.set_cons_zero, List.set_cons_succ]
    refine wpAnyH_take (i := 7) (v := ?_) rfl (by kernel_rfl) (by kernel_rfl) (by kernel_rfl) (fun _ _ _ h => h) (Or.inl ⟨by rfl, ?_⟩) (by assumption) ?_
    rotate_left
    · intro W hSw; (try dsimp only at hSw); go_simp; (try with_reducible rfl)
    try simp only [Act.put, List.getElem_toArray, List.getElem_cons_zero, List.getElem_cons_succ, List.setIfInBounds_toArray, List.set_cons_zero, List.set_cons_succ]
    refine wpAnyH_done (by kernel_rfl) ?_ _
    clear hHeld
    go_wp2_with fail
    go_ret
    exact ⟨rfl, ho2.out, hmm.out⟩
  · have hdr : RdM w.drew (some ⟨g, (k + 1) * 20, none⟩) r (xs.drop (k + 1)) := by
      rw [if_neg (by omega)] at hd0
      simp only [Option.map_some, add_lit] at hd0
      exact hd0
    clear hd0
    replace h := Lib.hid h
    replace ht := Lib.hid ht
    replace hdr := Lib.hid hdr
    replace hl := Lib.hid hl
    go_enter Tryz.func30, Tryz.ntmps30
    go_upto_region 5 with fail
    have hb1 : (k : Int) ≤ (k : Int) + 1 + (d : Int) := by omega
    have hb2 : 0 ≤ (k : Int) + 1 := by omega
    have hb3 : (k : Int) + 1 ≤ (k : Int) + 1 + (r : Int) := by omega
    refine wp_region_held_drew (S := fun _ => True) (by kernel_rfl) trivial (fun hHeld => ?_)
    refine wpAnyH_take (i := 0) (v := ?_) rfl (by kernel_rfl) (by kernel_rfl) (by kernel_rfl) (fun _ _ _ h => h) (Or.inl ⟨by rfl, ?_⟩) (by assumption) ?_
    rotate_left
    · intro W hSw; (try dsimp only at hSw); go_simp; (try with_reducible rfl)
    try simp only [Act.put, List.getElem_toArray, List.getElem_cons_zero, List.getElem_cons_succ, List.setIfInBounds_toArray, List.set_cons_zero, List.set_cons_succ]
    refine wpAnyH_take (i := 1) (v := ?_) rfl (by kernel_rfl) (by kernel_rfl) (by kernel_rfl) (fun _ _ _ h => h) (Or.inl ⟨by rfl, ?_⟩) (by assumption) ?_
    rotate_left
    · intro W hSw; (try dsimp only at hSw); go_simp; (try with_reducible rfl)
    try simp only [Act.put, List.getElem_toArray, List.getElem_cons_zero, List.getElem_cons_succ, List.setIfInBounds_toArray, List.set_cons_zero, List.set_cons_succ]
    refine wpAnyH_take (i := 3) (v := ?_) rfl (by kernel_rfl) (by kernel_rfl) (by kernel_rfl) (fun _ _ _ h => h) (Or.inl ⟨by rfl, ?_⟩) (by assumption) ?_
    rotate_left
    · intro W hSw; (try dsimp only at hSw); go_simp; (try with_reducible rfl)
    try simp only [Act.put, List.getElem_toArray, List.getElem_cons_zero, List.getElem_cons_succ, List.setIfInBounds_toArray, List.set_cons_zero, List.set_cons_succ]
    refine wpAnyH_take (i := 4) (v := ?_) rfl (by kernel_rfl) (by kernel_rfl) (by kernel_rfl) (fun _ _ _ h => h) (Or.inl ⟨by rfl, ?_⟩) (by assumption) ?_
    rotate_left
    · intro W hSw; (try dsimp only at hSw); go_simp; (try with_reducible rfl)
    try simp only [Act.put, List.getElem_toArray, List.getElem_cons_zero, List.getElem_cons_succ, List.setIfInBounds_toArray, List.set_cons_zero, List.set_cons_succ]
    refine wpAnyH_take (i := 2) (v := ?_) rfl (by kernel_rfl) (by kernel_rfl) (by kernel_rfl) (fun _ _ _ h => h) (Or.inl ⟨by rfl, ?_⟩) (by assumption) ?_
    rotate_left
    · intro W hSw; (try dsimp only at hSw); go_simp; (try with_reducible rfl)
    try simp only [Act.put, List.getElem_toArray, List.getElem_cons_zero, List.getElem_cons_succ, List.setIfInBounds_toArray, List.set_cons_zero, List.set_cons_succ]
    refine wpAnyH_take (i := 5) (v := ?_) rfl (by kernel_rfl) (by kernel_rfl) (by kernel_rfl) (fun _ _ _ h => h) (Or.inl ⟨by rfl, ?_⟩) (by assumption) ?_
    rotate_left
    · intro W hSw; (try dsimp only at hSw); go_simp; (try with_reducible rfl)
    try simp only [Act.put, List.getElem_toArray, List.getElem_cons_zero, List.getElem_cons_succ, List.setIfInBounds_toArray, List.set_cons_zero, List.set_cons_succ]
    clear hb1 hb2 hb3
    refine wpAnyH_ready (rs := [6]) (by kernel_rfl) (by simp) ?_
    refine AllReadyH.cons rfl (fun K hK => ?_) AllReadyH.nil
    refine step_appM_fit rfl (.tmp 22) (.tmp 25) rfl rfl ht.out rfl hdr.out (by omega) ?_
    intro w1 ho1 hm1
    obtain ⟨w2, hrun2, ho2, hm2⟩ := clearM_behind 0 ho1 (k + 1 + r - (k + r)) (by omega) (some ⟨g, (k + r) * 20, none⟩) (k + 1 + d - (k + r)) (fun _ => rfl)
    have hmm := Lib.hid (((Mod.refl (fp (some (⟨g, 0, none⟩ : Addr))) w).drew.trans hm1).trans hm2)
    clear ho1 hm1 hm2
    replace ho2 := Lib.hid ho2
    refine hK.out _ _ (trivial) (fun hHeld => ?_)
    clear hK K
    try simp only [Act.put, List.getElem_toArray, List.getElem_cons_zero, List.getElem_cons_succ, List.setIfInBounds_toArray, List.set_cons_zero, List.set_cons_succ]
    refine wpAnyH_take (i := 7) (v := ?_) rfl (by kernel_rfl) (by kernel_rfl) (by kernel_rfl) (fun _ _ _ h => h) (Or.inl ⟨by rfl, ?_⟩) (by assumption) ?_
    rotate_left
    · intro W hSw; (try dsimp only at hSw); go_simp; (try with_reducible rfl)
    try simp only [Act.put, List.getElem_toArray, List.getElem_cons_zero, List.getElem_cons_succ, List.setIfInBounds_toArray, List.set_cons_zero, List.set_cons_succ]
    refine wpAnyH_done (by kernel_rfl) ?_ _
    clear hHeld
    go_wp2_with fail
    go_ret
    exact ⟨rfl, ho2.out, hmm.out⟩
def dropAt (xs : List Ms) (k : Nat) : List Ms := xs.take k ++ xs.drop (k + 1)
/-- what Take leaves -/
def takeL (xs : List Ms) (k : Int) : List Ms := match lookR xs k with | none => xs | some _ => dropAt xs k.toNat
theorem lookR_some {xs : List Ms} {k : Int} {x : Ms} (h : lookR xs k = some x) : 0 ≤ k ∧ k.toNat < xs.length ∧ xs[k.toNat]? = some x := by
  unfold lookR at h
  by_cases hk : 0 ≤ k
  · rw [if_pos hk] at h
    refine ⟨hk, ?_, h⟩
    rcases Nat.lt_or_ge k.toNat xs.length with h1 | h1
    · exact h1
    · rw [List.getElem?_eq_none h1] at h; cases h
  · rw [if_neg hk] at h; cases h
set_option maxRecDepth 100000 in
set_option maxHeartbeats 4000000 in
theorem bagTake_ok (w : World) (p : Nat) (A : Option Addr) (n c : Nat) (xs : List Ms) (h : BagSt w p A n c xs) (hn : n ≤ 400) (k : Int) :
    Calls Tryz.prog 9 #[.pointer (some ⟨p, 0, none⟩), .int .i64 k] w fun e w' => ∃ v n', e = .returned v ∧ LookV xs k v ∧ BagSt w' p A n' c (takeL xs k) ∧ n' ≤ 400 ∧ Mod (bagF p A) w w' := by
  have hb0 := Lib.hid (Blk.new w 46 #[.int .i64 0, .int .i64 0, .int .i64 0, .int .i64 0, .int .i64 0, .int .i64 0, .int .i64 0, .int .i64 0, .int .i64 0, .int .i64 0, .int .i64 0, .string ⟨#[]⟩, .string ⟨#[]⟩, .int .i64 0, .slice none 0 0, .int .i64 0, .int .i64 0, .string ⟨#[]⟩, .bool false, .slice none 0 0])
  have hm0 := (Mod.refl none_ w).alloc (.cells #[.int .i64 0, .int .i64 0, .int .i64 0, .int .i64 0, .int .i64 0, .int .i64 0, .int .i64 0, .int .i64 0, .int .i64 0, .int .i64 0, .int .i64 0, .string ⟨#[]⟩, .string ⟨#[]⟩, .int .i64 0, .slice none 0 0, .int .i64 0, .int .i64 0, .string ⟨#[]⟩, .bool false, .slice none 0 0] 46)
  have h0 := Lib.hid (h.mod0 hm0)
  have hl := h.len
  have hwp := Lib.hid h.blk.lt
  have hwA := Lib.hid (h.ow.lt)
  have kL := Lib.hid (bagLook_ok _ p A n c xs h0.out k)
  replace hm0 := Lib.hid hm0
  replace hl := Lib.hid hl
  go_enter Tryz.func9, Tryz.ntmps9
  go_wp2_with fail
  with_reducible refine kL.out.mono ?_
  rintro e w1 ⟨v, rfl, hv, hm1⟩
  have hb1 := hb0.out.mod hm1 (fun h => h)
  have hs1 := h0.out.mod0 hm1
  have hM1 := hm0.out.trans hm1
  have hq := Lib.hid (Blk.new w1 46 #[.int .i64 0, .int .i64 0, .int .i64 0, .int .i64 0, .int .i64 0, .int .i64 0, .int .i64 0, .int .i64 0, .int .i64 0, .int .i64 0, .int .i64 0, .string ⟨#[]⟩, .string ⟨#[]⟩, .int .i64 0, .slice none 0 0, .int .i64 0, .int .i64 0, .string ⟨#[]⟩, .bool false, .slice none 0 0])
  have hsz := hM1.size
  rcases hv with ⟨x, hx, rfl⟩ | ⟨hx, rfl⟩
  · dsimp only
    obtain ⟨j1, j2, j3⟩ := lookR_some hx
    obtain ⟨j, rfl⟩ : ∃ j : Nat, k = (j : Int) := ⟨k.toNat, by omega⟩
    simp only [Int.toNat_natCast] at j2 j3
    obtain ⟨r, hr⟩ : ∃ r, n = j + 1 + r := ⟨n - (j + 1), by have := hl.out; omega⟩
    subst hr
    obtain ⟨d, hd⟩ : ∃ d, c = j + 1 + d := ⟨c - (j + 1), by have := h.ow.2.1; omega⟩
    subst hd
    have htk : Hid (takeL xs (j : Int) = xs.take j ++ xs.drop (j + 1)) := Lib.hid (by unfold takeL; rw [hx] <;> rfl)
    clear j1 j2 j3
    replace hb1 := Lib.hid hb1
    replace hs1 := Lib.hid hs1
    replace hM1 := Lib.hid hM1
    replace hx := Lib.hid hx
    replace hsz := Lib.hid hsz
    go_wp2_with (refine wpList_store_blk rfl 46 (.tmp 6) (.tmp 12) rfl w1.heap.size 0 _ rfl rfl hq.out (by simp) msg_size (by rfl) #[.int .i64 x.m.frm, .int .i64 x.m.to, .int .i64 x.m.kind, .int .i64 x.m.r.i.r, .int .i64 x.m.r.i.n, .int .i64 x.m.r.bal, .int .i64 x.m.r.st, .int .i64 x.m.r.by_, .int .i64 x.m.r.e.o.c, .int .i64 x.m.r.e.o.s, .int .i64 x.m.r.e.o.k, .string (txt x.m.r.e.o.acct), .string (txt x.m.r.e.o.peer), .int .i64 x.m.r.e.o.sum, .slice x.L.a x.L.n x.L.c, .int .i64 x.m.r.e.o.per, .int .i64 x.m.r.e.o.hold, .string (txt x.m.r.e.o.note), .bool x.m.r.e.none, .slice x.D.a x.D.n x.D.c] rfl ?_; intro w2 hq2 hm2; have hm2' := ((Mod.refl none_ w1).alloc (.cells #[.int .i64 0, .int .i64 0, .int .i64 0, .int .i64 0, .int .i64 0, .int .i64 0, .int .i64 0, .int .i64 0, .int .i64 0, .int .i64 0, .int .i64 0, .string ⟨#[]⟩, .string ⟨#[]⟩, .int .i64 0, .slice none 0 0, .int .i64 0, .int .i64 0, .string ⟨#[]⟩, .bool false, .slice none 0 0] 46)).in_new (Nat.le_refl _) hm2; have hs2 := hs1.out.mod0 hm2'; have hb2 := hb1.out.mod hm2' (fun h => h); have hM2 := hM1.out.trans hm2'; have c2 : w2.cell? ⟨p, 0, none⟩ = some (.slice A (j + 1 + r) (j + 1 + d)) := hs2.blk.cell_ rfl; replace hs2 := Lib.hid hs2; replace hb2 := Lib.hid hb2; replace hM2 := Lib.hid hM2; replace hq2 := Lib.hid hq2; clear hm2 hm2')
    with_reducible refine (delete1_ok w2 A j r d xs hs2.out.ow hn).mono ?_
    rintro e w3 ⟨rfl, ho3, hm3⟩
    dsimp only
    have hne1 : ¬ w1.heap.size = p := by have := hwp.out; have := hsz.out; omega
    have hne2 : ¬ w.heap.size = p := by have := hwp.out; omega
    have hbp : Blk w3 p 67 #[.slice A (j + 1 + r) (j + 1 + d)] := hs2.out.blk.mod hm3 hs2.out.np
    have c3 : w3.cell? ⟨p, 0, none⟩ = some (.slice A (j + 1 + r) (j + 1 + d)) := hbp.cell_ rfl
    have f3 : w3.frozen? ⟨p, 0, none⟩ = false := hbp.frozen 0
    have hq3 : Blk w3 w1.heap.size 46 #[.int .i64 x.m.frm, .int .i64 x.m.to, .int .i64 x.m.kind, .int .i64 x.m.r.i.r, .int .i64 x.m.r.i.n, .int .i64 x.m.r.bal, .int .i64 x.m.r.st, .int .i64 x.m.r.by_, .int .i64 x.m.r.e.o.c, .int .i64 x.m.r.e.o.s, .int .i64 x.m.r.e.o.k, .string (txt x.m.r.e.o.acct), .string (txt x.m.r.e.o.peer), .int .i64 x.m.r.e.o.sum, .slice x.L.a x.L.n x.L.c, .int .i64 x.m.r.e.o.per, .int .i64 x.m.r.e.o.hold, .string (txt x.m.r.e.o.note), .bool x.m.r.e.none, .slice x.D.a x.D.n x.D.c] := hq2.out.mod hm3 (fun hh => by have := hwA.out _ hh; have := hsz.out; omega)
    have hb3 : Blk w3 w.heap.size 46 #[.int .i64 0, .int .i64 0, .int .i64 0, .int .i64 0, .int .i64 0, .int .i64 0, .int .i64 0, .int .i64 0, .int .i64 0, .int .i64 0, .int .i64 0, .string ⟨#[]⟩, .string ⟨#[]⟩, .int .i64 0, .slice none 0 0, .int .i64 0, .int .i64 0, .string ⟨#[]⟩, .bool false, .slice none 0 0] := hb2.out.mod hm3 (fun hh => by have := hwA.out _ hh; omega)
    have hM3 := (hM2.out.any (bagF p A)).trans (hm3.mono (fun k hk => .inr hk))
    have hq4 := Lib.hid (hq3.far (p := ⟨p, 0, none⟩) hne1 (.slice A (j + r) (j + 1 + d)))
    have hb4 := Lib.hid (hb3.far (p := ⟨p, 0, none⟩) hne2 (.slice A (j + r) (j + 1 + d)))
    have hM4 := Lib.hid (hM3.setCell (p := ⟨p, 0, none⟩) (.inl (.inl rfl)) (.slice A (j + r) (j + 1 + d)))
    have hs4 : Hid (BagSt (w3.setCell ⟨p, 0, none⟩ (.slice A (j + r) (j + 1 + d))) p A (j + r) (j + 1 + d) (xs.take j ++ xs.drop (j + 1))) :=
      Lib.hid ⟨hbp.set_ 0 _, ho3.mod ((Mod.refl (only p) w3).set_only 0 _) (fun k hk hh => by have : k = p := hh; subst this; exact hs2.out.np hk), hs2.out.np⟩
    clear hm3 ho3 hbp hq3 hb3 hM3 c2 hs2 hb2 hM2 hq2
    replace hne1 := Lib.hid hne1
    replace hne2 := Lib.hid hne2
    go_wp2_with (first
      | (refine wpList_load_row rfl 46 (.tmp 6) rfl w1.heap.size rfl _ _ _ _ hq4.out Tryz.underlying46 rfl msg_size ?_)
      | (refine wpList_store_blk rfl 46 (.tmp 4) (.tmp 26) rfl w.heap.size 0 _ rfl rfl hb4.out (by simp) msg_size (by rfl) #[.int .i64 x.m.frm, .int .i64 x.m.to, .int .i64 x.m.kind, .int .i64 x.m.r.i.r, .int .i64 x.m.r.i.n, .int .i64 x.m.r.bal, .int .i64 x.m.r.st, .int .i64 x.m.r.by_, .int .i64 x.m.r.e.o.c, .int .i64 x.m.r.e.o.s, .int .i64 x.m.r.e.o.k, .string (txt x.m.r.e.o.acct), .string (txt x.m.r.e.o.peer), .int .i64 x.m.r.e.o.sum, .slice x.L.a x.L.n x.L.c, .int .i64 x.m.r.e.o.per, .int .i64 x.m.r.e.o.hold, .string (txt x.m.r.e.o.note), .bool x.m.r.e.none, .slice x.D.a x.D.n x.D.c] rfl ?_; intro w5 hb5 hm5; replace hb5 := Lib.hid hb5; replace hm5 := Lib.hid hm5))
    refine ret_row_tmp rfl w.heap.size rfl hb5.out Tryz.underlying46 rfl msg_size (.bool true) rfl rfl ?_
    refine ⟨_, j + r, rfl, .inl ⟨x, hx.out, rfl⟩, ?_, by omega, hM4.out.then hm5.out (fun i hi hk => by have : i = w.heap.size := hk; omega)⟩
    rw [htk.out]
    exact hs4.out.mod hm5.out (fun hh => by have : p = w.heap.size := hh; have := hwp.out; omega) (fun k hk hh => by have : k = w.heap.size := hh; have := hwA.out k hk; omega)
  · dsimp only
    have htk : Hid (takeL xs k = xs) := Lib.hid (by unfold takeL; rw [hx])
    replace hb1 := Lib.hid hb1
    replace hs1 := Lib.hid hs1
    replace hM1 := Lib.hid hM1
    replace hx := Lib.hid hx
    replace hsz := Lib.hid hsz
    go_wp2_with (first
      | (refine wpList_store_blk rfl 46 (.tmp 6) (.tmp 12) rfl w1.heap.size 0 _ rfl rfl hq.out (by simp) msg_size (by rfl) #[.int .i64 0, .int .i64 0, .int .i64 0, .int .i64 0, .int .i64 0, .int .i64 0, .int .i64 0, .int .i64 0, .int .i64 0, .int .i64 0, .int .i64 0, .string ⟨#[]⟩, .string ⟨#[]⟩, .int .i64 0, .slice none 0 0, .int .i64 0, .int .i64 0, .string ⟨#[]⟩, .bool false, .slice none 0 0] rfl ?_; intro w2 hq2 hm2; have hm2' := ((Mod.refl none_ w1).alloc (.cells #[.int .i64 0, .int .i64 0, .int .i64 0, .int .i64 0, .int .i64 0, .int .i64 0, .int .i64 0, .int .i64 0, .int .i64 0, .int .i64 0, .int .i64 0, .string ⟨#[]⟩, .string ⟨#[]⟩, .int .i64 0, .slice none 0 0, .int .i64 0, .int .i64 0, .string ⟨#[]⟩, .bool false, .slice none 0 0] 46)).in_new (Nat.le_refl _) hm2; have hs2 := Lib.hid (hs1.out.mod0 hm2'); have hb2 := Lib.hid (hb1.out.mod hm2' (fun h => h)); have hM2 := Lib.hid (hM1.out.trans hm2'); replace hq2 := Lib.hid hq2; clear hm2 hm2')
      | (refine wpList_load_row rfl 46 (.tmp 6) rfl w1.heap.size rfl _ _ _ _ hq2.out Tryz.underlying46 rfl msg_size ?_)
      | (refine wpList_store_blk rfl 46 (.tmp 4) (.tmp 26) rfl w.heap.size 0 _ rfl rfl hb2.out (by simp) msg_size (by rfl) #[.int .i64 0, .int .i64 0, .int .i64 0, .int .i64 0, .int .i64 0, .int .i64 0, .int .i64 0, .int .i64 0, .int .i64 0, .int .i64 0, .int .i64 0, .string ⟨#[]⟩, .string ⟨#[]⟩, .int .i64 0, .slice none 0 0, .int .i64 0, .int .i64 0, .string ⟨#[]⟩, .bool false, .slice none 0 0] rfl ?_; intro w5 hb5 hm5; replace hb5 := Lib.hid hb5; replace hm5 := Lib.hid hm5))
    refine ret_row_tmp rfl w.heap.size rfl hb5.out Tryz.underlying46 rfl msg_size (.bool false) rfl rfl ?_
    refine ⟨_, n, rfl, .inr ⟨hx.out, rfl⟩, ?_, hn, (hM2.out.any _).then hm5.out (fun i hi hk => by have : i = w.heap.size := hk; omega)⟩
    rw [htk.out]
    exact hs2.out.mod hm5.out (fun hh => by have : p = w.heap.size := hh; have := hwp.out; omega) (fun k hk hh => by have : k = w.heap.size := hh; have := hwA.out k hk; omega)
end Go.Proofs.YtdekehhmjehicaaGreat
