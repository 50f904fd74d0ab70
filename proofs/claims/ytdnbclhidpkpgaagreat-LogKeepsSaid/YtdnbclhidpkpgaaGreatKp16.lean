import Derived.Test.YtdnbclhidpkpgaaGreatKp15
import Derived.Test.YtdnbclhidpkpgaaGreatKp12
import Derived.Deep.DeepCutAuto
import Derived.Test.YtdnbclhidpkpgaaGreatKp1
import Derived.Test.YtdnbclhidpkpgaaGreatRows
import Derived.Test.YtdnbclhidpkpgaaGreatKp11
/-
  A reader of a struct at work inside a call that is handed the reader: the reader, the result's variable, the variable that is filled. No condition.
-/
namespace Go.Proofs.YtdnbclhidpkpgaaGreat
set_option linter.unusedVariables false
set_option linter.unusedSimpArgs false
open Go.RowKit
structure FillC (w : World) (t : TypeId) (z : Array Value) (g B q : Nat) (W : World) (cs : Array Value) (e : Nat) (l : List UInt8) : Prop where
  rd : Rdr W g B l e
  res : Blk W w.heap.size t z
  var : Blk W q t cs
  mod : Mod (only g) w W
  gw : w.heap.size ≠ g
  bw : w.heap.size ≠ B
  qw : w.heap.size < q
  qg : q ≠ g
  qb : q ≠ B
  bl : B < W.heap.size
section
variable {w : World} {t : TypeId} {z : Array Value} {g B q : Nat} {W W' : World} {cs : Array Value} {e e' : Nat} {l l' : List UInt8}
theorem Mod.join {w w1 w2 : World} {g : Nat} {F : Nat → Prop} (h : Mod (only g) w w1) (k : Mod F w1 w2) (hF : ∀ i, F i → w.heap.size ≤ i) : Mod (only g) w w2 :=
  h.then k fun i hi hk => by have := hF i hk; omega
theorem FillC.call (h : FillC w t z g B q W cs e l) (hm : Mod (only g) W W') (hr : Rdr W' g B l' e') : FillC w t z g B q W' cs e' l' :=
  ⟨hr, h.res.mod hm (fun hh => h.gw hh), h.var.mod hm (fun hh => h.qg hh), h.mod.trans hm, h.gw, h.bw, h.qw, h.qg, h.qb, Nat.lt_of_lt_of_le h.bl hm.size⟩
theorem FillC.mod0 (h : FillC w t z g B q W cs e l) (hm : Mod none_ W W') : FillC w t z g B q W' cs e l :=
  ⟨h.rd.mod0 hm, h.res.mod hm (fun hh => hh), h.var.mod hm (fun hh => hh), h.mod.trans (hm.any _), h.gw, h.bw, h.qw, h.qg, h.qb, Nat.lt_of_lt_of_le h.bl hm.size⟩
theorem FillC.alloc (h : FillC w t z g B q W cs e l) (o : Obj) : FillC w t z g B q (W.alloc o) cs e l := h.mod0 ((Mod.refl none_ W).alloc o)
theorem FillC.drew (h : FillC w t z g B q W cs e l) : FillC w t z g B q W.drew cs e l := h.mod0 (Mod.refl none_ W).drew
theorem FillC.own (h : FillC w t z g B q W cs e l) {F : Nat → Prop} (hm : Mod F W W') (h1 : ¬ F g) (h2 : ¬ F B) (h3 : ¬ F q) (h4 : ∀ k, F k → w.heap.size < k) : FillC w t z g B q W' cs e l :=
  ⟨h.rd.mod hm h1 h2, h.res.mod hm (fun hh => by have := h4 _ hh; omega), h.var.mod hm h3, h.mod.join hm (fun i hk => Nat.le_of_lt (h4 _ hk)), h.gw, h.bw, h.qw, h.qg, h.qb, Nat.lt_of_lt_of_le h.bl hm.size⟩
theorem FillC.turn (h : FillC w t z g B q W cs e l) {cs' : Array Value} (hm : Mod (only q) W W') (hv : Blk W' q t cs') : FillC w t z g B q W' cs' e l :=
  ⟨h.rd.mod hm (fun hh => h.qg hh.symm) (fun hh => h.qb hh.symm), h.res.mod hm (fun hh => by have : w.heap.size = q := hh; have := h.qw; omega), hv, h.mod.join hm (fun i hi => by have : i = q := hi; have := h.qw; omega), h.gw, h.bw, h.qw, h.qg, h.qb, Nat.lt_of_lt_of_le h.bl hm.size⟩
theorem FillC.store (h : FillC w t z g B q W cs e l) (o : Nat) (v : Value) : FillC w t z g B q (W.setCell ⟨q, o, none⟩ v) (cs.setIfInBounds o v) e l :=
  h.turn ((Mod.refl (only q) W).set_only o v) (h.var.set_ o v)
theorem FillC.new_ne (h : FillC w t z g B q W cs e l) : w.heap.size < W.heap.size ∧ g < W.heap.size ∧ B < W.heap.size ∧ q < W.heap.size := ⟨h.res.lt, h.rd.lt, h.bl, h.var.lt⟩
theorem ListOwn.appC {t' : TypeId} {size : Nat} {A A' : Option Addr} {m cp m' cp' : Nat} {xs xs' : List Value} (h : ListOwn w t' size g B q W A m cp xs) (st : FillC w t z g B q W cs e l)
    (ho : Ow W' t' size A' m' cp' xs') (hm : Mod (fp A) W W') (hA : A' = A ∨ A' = some ⟨W.heap.size, 0, none⟩) : ListOwn w t' size g B q W' A' m' cp' xs' ∧ FillC w t z g B q W' cs e l := by
  refine ⟨?_, st.own hm h.ng h.nb h.nq h.fr⟩
  rcases hA with rfl | rfl
  · exact ⟨ho, h.fr, h.ng, h.nb, h.nq⟩
  · have h1 := st.rd.lt
    have h2 := st.bl
    have h3 := st.var.lt
    have h4 := st.res.lt
    refine ⟨ho, ?_, ?_, ?_, ?_⟩
    · rintro k ⟨a, ha, rfl⟩; cases ha; exact h4
    · rintro ⟨a, ha, hk⟩; cases ha; simp only at hk; omega
    · rintro ⟨a, ha, hk⟩; cases ha; simp only at hk; omega
    · rintro ⟨a, ha, hk⟩; cases ha; simp only at hk; omega
end
theorem entry_size : (Tryz.prog.info? 33).map (·.size) = some 12 := by kernel_rfl
theorem rdOrd_in {b : List UInt8} {o : Od} {f : Nat} (h : rdOrd b = (o, f)) : o = od0 ∨ okOd o := by
  rcases rdOrd_two b with h1 | h1
  · rw [h] at h1
    dsimp only at h1
    subst h1
    exact .inr (rdOrd_yes h).2.2
  · rw [h] at h1
    simp only [Prod.mk.injEq] at h1
    exact .inl h1.1
/-- what Right asks of an order to be so -/
theorem od_facts {o : Od} (h : o = od0 ∨ okOd o) : o.legs.length ≤ 6 ∧ (Lit.int .i64 o.k).wf = true ∧ ∀ l ∈ o.legs, (txt l.n).size ≤ maxLen := by
  rcases h with rfl | h
  · exact ⟨by decide, by decide, fun l hl => by cases hl⟩
  · obtain ⟨_, _, h3, _, _, _, h7, h8, _⟩ := h
    exact ⟨h7, wf_of64 ⟨by omega, by omega⟩, fun l hl => txt_small (by have := (h8 l hl).1; omega)⟩
theorem rdEn_in {s : RS} {v : En} {f : Nat} {r : RS} (h : rdEn s = ((v, f), r)) : (v.o = od0 ∨ okOd v.o) ∧ v.deps.length ≤ 100 := by
  obtain ⟨re, rt⟩ := r
  unfold rdEn at h
  obtain ⟨x, s1, h1, h⟩ := bd_inv h
  by_cases hx : x = 1
  · rw [if_pos hx] at h
    obtain ⟨k, s2, h2, h⟩ := bd_inv h
    obtain ⟨ds, s3, h3, h⟩ := bd_inv h
    simp only [pu, Prod.mk.injEq] at h
    have := qg_in h2
    have := (rdList_in rdIs_in _ _ _ _ h3).1
    rw [← h.1.1]
    exact ⟨.inl rfl, by dsimp only; omega⟩
  · rw [if_neg hx] at h
    obtain ⟨b, s2, h2, h⟩ := bd_inv h
    obtain ⟨o, f', ho⟩ := duo_ (rdOrd b)
    rw [ho] at h
    dsimp only at h
    unfold rdEnO at h
    by_cases hf : f' ≠ 0
    · rw [if_pos hf] at h
      simp only [pu, Prod.mk.injEq] at h
      rw [← h.1.1]
      exact ⟨.inl rfl, by simp⟩
    · rw [if_neg hf] at h
      obtain ⟨k, s3, h3, h⟩ := bd_inv h
      obtain ⟨ds, s4, h4, h⟩ := bd_inv h
      simp only [pu, Prod.mk.injEq] at h
      have := qg_in h3
      have := (rdList_in rdIs_in _ _ _ _ h4).1
      rw [← h.1.1]
      exact ⟨rdOrd_in ho, by dsimp only; omega⟩
def EnPost (w : World) (g B : Nat) (r : (En × Nat) × RS) (en : Ending) (w' : World) : Prop :=
  ∃ (v : En) (f e : Nat) (l : List UInt8) (L D : SV), r = ((v, f), e, l) ∧ en = .returned (.tuple #[.agg #[.int .i64 v.o.c, .int .i64 v.o.s, .int .i64 v.o.k, .string (txt v.o.acct), .string (txt v.o.peer), .int .i64 v.o.sum, .slice L.a L.n L.c, .int .i64 v.o.per, .int .i64 v.o.hold, .string (txt v.o.note), .bool v.none, .slice D.a D.n D.c], .int .i64 (f : Int)]) ∧ EnM w' v L D ∧ Fresh w L.a ∧ Fresh w D.a ∧ Rdr w' g B l e ∧ Mod (only g) w w'
end Go.Proofs.YtdnbclhidpkpgaaGreat
/-
  log.entry. No condition.
-/
namespace Go.Proofs.YtdnbclhidpkpgaaGreat
set_option linter.unusedVariables false
set_option linter.unusedSimpArgs false
open Go.RowKit
/-- an order's legs, safe from what changes -/
structure LegsSafe (N g q : Nat) (W : World) (o : Od) (L : SV) : Prop where
  m : OdM W o L
  safe : 0 < L.n → ∀ k, fp L.a k → k < N ∧ k ≠ g ∧ k ≠ q
theorem LegsSafe.mod {N g q : Nat} {W W' : World} {o : Od} {L : SV} (h : LegsSafe N g q W o L) {F : Nat → Prop} (hm : Mod F W W') (hF : ∀ k, F k → k = g ∨ k = q ∨ N ≤ k) : LegsSafe N g q W' o L :=
  ⟨⟨Rd.mod' h.m.rd hm (fun h0 k hk hf => by have := h.safe h0 k hk; have := hF k hf; omega), h.m.cap⟩, h.safe⟩
theorem LegsSafe.call {N g q : Nat} {W W' : World} {o : Od} {L : SV} (h : LegsSafe N g q W o L) (hm : Mod (only g) W W') : LegsSafe N g q W' o L := h.mod hm (fun k hk => .inl hk)
theorem LegsSafe.turn {N g q : Nat} {W W' : World} {o : Od} {L : SV} (h : LegsSafe N g q W o L) (hm : Mod (only q) W W') : LegsSafe N g q W' o L := h.mod hm (fun k hk => .inr (.inl hk))
theorem LegsSafe.mod0 {N g q : Nat} {W W' : World} {o : Od} {L : SV} (h : LegsSafe N g q W o L) (hm : Mod none_ W W') : LegsSafe N g q W' o L := h.mod hm (fun k hk => hk.elim)
theorem LegsSafe.zero (N g q : Nat) (W : World) : LegsSafe N g q W od0 ⟨none, 0, 0⟩ := ⟨od0_mem W, fun h => absurd h (by simp)⟩
theorem newer {W : World} {A A' : Option Addr} {N : Nat} (h : ∀ k, fp A k → N ≤ k) (hA : A' = A ∨ A' = some ⟨W.heap.size, 0, none⟩) (hN : N ≤ W.heap.size) : ∀ k, fp A' k → N ≤ k := by
  rcases hA with rfl | rfl
  · exact h
  · rintro k ⟨a, ha, rfl⟩; cases ha; exact hN
theorem step_appP {w : World} {ops : Array Oper} {o : Oper} {a : Act} {K : Act → World → Prop} {Q : Exit → Act → World → Prop} {E : Prop} (hgd : o.guard = none) (s x : Operand)
    (ho : o.op = .call { callee := .builtin .append, args := #[s, x], argTypes := #[31, 31] })
    {A : Option Addr} {n c : Nat} {xs : List Is} (hs : a.eval s = .slice A n c) (hown : OwP w A n c xs)
    {S : Option Addr} {m d : Nat} {news : List Is} (hx : a.eval x = .slice S m d) (hr : RdP w S m news) (hb : (n + m) * 16 ≤ 140737488355328)
    (h : ∀ A' c' w', OwP w' A' (n + m) c' (xs ++ news) → Mod (fp A) w w' → (A' = A ∨ A' = some ⟨w.heap.size, 0, none⟩) → K (a.put o.dst (.slice A' (n + m) c')) w') : if Region.wanted o (yielded ops a.tmps) = true then Oper.wp Tryz.prog o a w K Q else E := by
  obtain ⟨i0, hi, hz0, hz1, hz2⟩ := info_parts isinfo
  refine step_append_ow hgd s x 31 ho 25 i0 _ 2 16 Tryz.underlying31 hi hz0 hz1 hz2 rfl (by omega) A n c (iss xs) hs hown S m d (iss news) hx hr (iss_one _) (by omega) (by omega) ?_
  intro A' c' w' h1
  rw [← iss_append] at h1
  exact h A' c' w' h1
theorem Rd.blt {w : World} {size n : Nat} {A : Option Addr} {xs : List Value} (h : Rd w size A n xs) (hn : 0 < n) (hs : 0 < size) : ∀ k, fp A k → k < w.heap.size := by
  rintro k ⟨a, e, rfl⟩
  obtain ⟨b, o, e', hc⟩ := h.form hn hs
  have hl : 0 < xs.length := by rw [h.1]; exact Nat.mul_pos hn hs
  have := hc 0 _ (List.getElem?_eq_getElem hl)
  rw [e] at e'
  cases e'
  exact World.block_lt_of_cell? w _ this
theorem LegsSafe.of {N g q : Nat} {w1 W : World} {o : Od} {L : SV} (h : OdM W o L) (hf : Fresh w1 L.a) (hg : g < w1.heap.size) (hq : q < w1.heap.size) (hN : W.heap.size ≤ N) : LegsSafe N g q W o L :=
  ⟨h, fun h0 k hk => by
    have h1 := h.rd.blt h0 (by omega) k hk
    obtain ⟨a, ha, rfl⟩ := hk
    have := hf a ha
    omega⟩
set_option maxRecDepth 100000 in
set_option maxHeartbeats 8000000 in
theorem entry_t (w : World) (g B e0 : Nat) (l0 : List UInt8) (h : Rdr w g B l0 e0) (hBl : B < w.heap.size) (e1 : Nat) (l1 : List UInt8) (h1 : qg 0 1 (e0, l0) = (1, e1, l1)) : Calls Tryz.prog 37 #[.pointer (some ⟨g, 0, none⟩)] w (EnPost w g B (rdEn (e0, l0))) := by
  obtain ⟨k0, e3, l3, h3⟩ := tri_ (qg 0 100 (e1, l1))
  obtain ⟨ds, e4, l4, h4⟩ := tri_ (rdList rdIs k0.toNat (e3, l3))
  have hfin : Hid (rdEn (e0, l0) = ((⟨od0, true, ds⟩, 0), e4, l4)) := Lib.hid (by unfold rdEn; rw [bd_of h1, if_pos rfl, bd_of h3, bd_of h4]; rfl)
  have hk := qg_in h3
  obtain ⟨k, rfl⟩ : ∃ k : Nat, k0 = (k : Int) := ⟨k0.toNat, by omega⟩
  have hk100 : k ≤ 100 := by omega
  have hl0 : Hid (ListRel rdIs ds (e4, l4) k [] (e3, l3)) := Lib.hid ⟨ds, by simpa using h4, rfl⟩
  have hb0 := Blk.new w 33 #[.int .i64 0, .int .i64 0, .int .i64 0, .string ⟨#[]⟩, .string ⟨#[]⟩, .int .i64 0, .slice none 0 0, .int .i64 0, .int .i64 0, .string ⟨#[]⟩, .bool false, .slice none 0 0]
  have hm0 := (Mod.refl none_ w).alloc (.cells #[.int .i64 0, .int .i64 0, .int .i64 0, .string ⟨#[]⟩, .string ⟨#[]⟩, .int .i64 0, .slice none 0 0, .int .i64 0, .int .i64 0, .string ⟨#[]⟩, .bool false, .slice none 0 0] 33)
  have hR0 := h.mod0 hm0
  have hgl := h.lt
  have hng : ¬ w.heap.size = g := by omega
  clear h4 h hk
  replace h1 := Lib.hid h1
  replace h3 := Lib.hid h3
  replace hb0 := Lib.hid hb0
  replace hm0 := Lib.hid hm0
  go_enter Tryz.func37, Tryz.ntmps37
  go_wp2_with fail
  refine (lsmall_r h1.out hR0).mono ?_; rintro en w2 ⟨rfl, hR, hm⟩; dsimp only at hR ⊢
  have hbr := hb0.out.mod hm (fun hh => hng hh)
  have hM := (hm0.out.any (only g)).trans hm
  have hsz := hm.size
  simp only [World.size_alloc] at hsz
  have st : FillC w 33 #[.int .i64 0, .int .i64 0, .int .i64 0, .string ⟨#[]⟩, .string ⟨#[]⟩, .int .i64 0, .slice none 0 0, .int .i64 0, .int .i64 0, .string ⟨#[]⟩, .bool false, .slice none 0 0] g B w2.heap.size (w2.alloc (.cells #[.int .i64 0, .int .i64 0, .int .i64 0, .string ⟨#[]⟩, .string ⟨#[]⟩, .int .i64 0, .slice none 0 0, .int .i64 0, .int .i64 0, .string ⟨#[]⟩, .bool true, .slice none 0 0] 33)) #[.int .i64 0, .int .i64 0, .int .i64 0, .string ⟨#[]⟩, .string ⟨#[]⟩, .int .i64 0, .slice none 0 0, .int .i64 0, .int .i64 0, .string ⟨#[]⟩, .bool true, .slice none 0 0] e1 l1 :=
    ⟨hR.mod0 ((Mod.refl none_ w2).alloc _), hbr.alloc _, Blk.new w2 _ _, hM.alloc _, by omega, by omega, by omega, by omega, by omega, by simp only [World.size_alloc]; omega⟩
  obtain ⟨N, hN0⟩ : ∃ N, N = (w2.alloc (.cells #[.int .i64 0, .int .i64 0, .int .i64 0, .string ⟨#[]⟩, .string ⟨#[]⟩, .int .i64 0, .slice none 0 0, .int .i64 0, .int .i64 0, .string ⟨#[]⟩, .bool true, .slice none 0 0] 33)).heap.size := ⟨_, rfl⟩
  have hN : N ≤ (w2.alloc (.cells #[.int .i64 0, .int .i64 0, .int .i64 0, .string ⟨#[]⟩, .string ⟨#[]⟩, .int .i64 0, .slice none 0 0, .int .i64 0, .int .i64 0, .string ⟨#[]⟩, .bool true, .slice none 0 0] 33)).heap.size := by omega
  clear hR hm hbr hM hsz hN0 hR0
  generalize hq : w2.heap.size = q at st
  have ls := Lib.hid (LegsSafe.zero N g q (w2.alloc (.cells #[.int .i64 0, .int .i64 0, .int .i64 0, .string ⟨#[]⟩, .string ⟨#[]⟩, .int .i64 0, .slice none 0 0, .int .i64 0, .int .i64 0, .string ⟨#[]⟩, .bool true, .slice none 0 0] 33)))
  replace st := Lib.hid st
  replace hN := Lib.hid hN
  go_wp2_with fail
  replace hq := Lib.hid hq
  refine (lsmall_r h3.out st.out.rd).mono ?_; rintro en w8 ⟨rfl, hR, hm⟩; dsimp only at hR ⊢
  replace ls := Lib.hid (ls.out.call hm)
  have hN8 : N ≤ w8.heap.size := Nat.le_trans hN.out hm.size
  replace st := Lib.hid (st.out.call hm hR); clear hm hR
  go_wp2_with fail
  go_loopw [35] (fun v wr => ∃ j : Nat, v = .int .i64 j ∧ j ≤ k ∧ N ≤ wr.heap.size ∧ ∃ A cp pre e l, FillC w 33 #[.int .i64 0, .int .i64 0, .int .i64 0, .string ⟨#[]⟩, .string ⟨#[]⟩, .int .i64 0, .slice none 0 0, .int .i64 0, .int .i64 0, .string ⟨#[]⟩, .bool false, .slice none 0 0] g B q wr #[.int .i64 0, .int .i64 0, .int .i64 0, .string ⟨#[]⟩, .string ⟨#[]⟩, .int .i64 0, .slice none 0 0, .int .i64 0, .int .i64 0, .string ⟨#[]⟩, .bool true, .slice A j cp] e l ∧ ListOwn w 25 2 g B q wr A j cp (iss pre) ∧ ListRel rdIs ds (e4, l4) (k - j) pre (e, l) ∧ LegsSafe N g q wr od0 ⟨none, 0, 0⟩ ∧ ∀ i, fp A i → N ≤ i) (fun v _ => k - (intOf v).toNat)
  case atStart => exact ⟨0, rfl, by omega, hN8, none, 0, [], e3, l3, st.out, ListOwn.nil _ _ _ _ _ _ _, hl0.out, ls.out, (fun i hi => by obtain ⟨a, ha, _⟩ := hi; cases ha)⟩
  case round =>
    clear st ls hN8 hN
    obtain ⟨j, rfl, hj, hN, A9, cp, pre, e, l, st, lo, lr, ls, hA9⟩ := hrel
    by_cases hlt : j < k
    · obtain ⟨d, ea, la, ha⟩ := tri_ (rdIs (e, l))
      rw [show k - j = (k - (j + 1)) + 1 by omega] at lr
      have lr2 := Lib.hid (lr.step ha)
      clear lr
      have i2 : wr.cell? ⟨q, 11, none⟩ = some (.slice A9 j cp) := st.var.cell_ rfl
      have hm0 := (Mod.refl none_ wr).drew
      have kI := Lib.hid (inst_r ha st.drew.rd st.drew.bl)
      have hfinish : ∀ (w10 : World) (A11 : Option Addr) (c11 : Nat) (w11 : World), Mod (only g) wr.drew w10 → Rdr w10 g B la ea → OwP w11 A11 (j + 1) c11 (pre ++ [d]) → Mod (fp A9) (w10.alloc (.cells #[.int .i64 d.r, .int .i64 d.n] 25)) w11 → (A11 = A9 ∨ A11 = some ⟨(w10.alloc (.cells #[.int .i64 d.r, .int .i64 d.n] 25)).heap.size, 0, none⟩) →
          w11.cell? ⟨q, 11, none⟩ = some (.slice A9 j cp) ∧ w11.frozen? ⟨q, 11, none⟩ = false ∧ N ≤ (w11.setCell ⟨q, 11, none⟩ (.slice A11 (j + 1) c11)).heap.size ∧ FillC w 33 #[.int .i64 0, .int .i64 0, .int .i64 0, .string ⟨#[]⟩, .string ⟨#[]⟩, .int .i64 0, .slice none 0 0, .int .i64 0, .int .i64 0, .string ⟨#[]⟩, .bool false, .slice none 0 0] g B q (w11.setCell ⟨q, 11, none⟩ (.slice A11 (j + 1) c11)) #[.int .i64 0, .int .i64 0, .int .i64 0, .string ⟨#[]⟩, .string ⟨#[]⟩, .int .i64 0, .slice none 0 0, .int .i64 0, .int .i64 0, .string ⟨#[]⟩, .bool true, .slice A11 (j + 1) c11] ea la ∧ ListOwn w 25 2 g B q (w11.setCell ⟨q, 11, none⟩ (.slice A11 (j + 1) c11)) A11 (j + 1) c11 (iss (pre ++ [d])) ∧ LegsSafe N g q (w11.setCell ⟨q, 11, none⟩ (.slice A11 (j + 1) c11)) od0 ⟨none, 0, 0⟩ ∧ ∀ i, fp A11 i → N ≤ i := by
        intro w10 A11 c11 w11 hm hR ho hmA hA
        have m10 := (Mod.refl none_ w10).alloc (.cells #[.int .i64 d.r, .int .i64 d.n] 25)
        have st1 := ((st.drew.call hm hR).mod0 m10)
        have lo1 := (((lo.mod0 hm0).call hm).mod0 m10)
        obtain ⟨lo2, st2⟩ := lo1.appC st1 ho hmA hA
        have ls2 := (((ls.mod0 hm0).call hm).mod0 m10).mod hmA (fun i hi => .inr (.inr (hA9 i hi)))
        have hms := (Mod.refl (only q) w11).set_only 11 (.slice A11 (j + 1) c11)
        have hNN := Nat.le_trans (Nat.le_trans hN hm.size) m10.size
        exact ⟨st2.var.cell_ rfl, st2.var.frozen 11, Nat.le_trans (Nat.le_trans hNN hmA.size) hms.size, st2.store 11 _, lo2.turn hms, ls2.turn hms, newer hA9 hA hNN⟩
      have hf := Lib.hid hfinish
      have cW : ∀ w10, Mod (only g) wr.drew w10 → Rdr w10 g B la ea → w10.cell? ⟨q, 11, none⟩ = some (.slice A9 j cp) := fun w10 hm hR => (st.drew.call hm hR).var.cell_ rfl
      have hc := Lib.hid cW
      have hw : ∀ w10, Mod (only g) wr.drew w10 → OwP (w10.alloc (.cells #[.int .i64 d.r, .int .i64 d.n] 25)) A9 j cp pre := fun w10 hm => (((lo.mod0 hm0).call hm).mod0 ((Mod.refl none_ w10).alloc _)).ow
      have hwo := Lib.hid hw
      have hql := Lib.hid st.var.lt
      clear hfinish cW hw hm0
      replace st := Lib.hid st
      replace lo := Lib.hid lo
      replace ha := Lib.hid ha
      replace ls := Lib.hid ls
      replace hA9 := Lib.hid hA9
      replace hN := Lib.hid hN
      go_wp2_with fail
      refine wp_region_held_drew (S := fun _ => True) (by kernel_rfl) trivial (fun hHeld => ?_)
      refine wpAnyH_take (i := 0) (v := ?_) rfl (by kernel_rfl) (by kernel_rfl) (by kernel_rfl) (fun _ _ _ h => h) (Or.inl ⟨by rfl, ?_⟩) (by assumption) ?_
      rotate_left
      · intro W hSw; (try dsimp only at hSw); go_simp; (try with_reducible rfl)
      try simp only [Act.put, List.getElem_toArray, List.getElem_cons_zero, List.getElem_cons_succ, List.setIfInBounds_toArray, List.set_cons_zero, List.set_cons_succ]
      refine wpAnyH_take (i := 2) (v := ?_) rfl (by kernel_rfl) (by kernel_rfl) (by kernel_rfl) (fun _ _ _ h => h) (Or.inl ⟨by rfl, ?_⟩) (by assumption) ?_
      rotate_left
      · intro W hSw; (try dsimp only at hSw); go_simp; (try with_reducible rfl)
      try simp only [Act.put, List.getElem_toArray, List.getElem_cons_zero, List.getElem_cons_succ, List.setIfInBounds_toArray, List.set_cons_zero, List.set_cons_succ]
      refine wpAnyH_ready (rs := [1, 3]) (by kernel_rfl) (by simp) ?_
      refine AllReadyH.cons rfl (fun K hK => ?_) (AllReadyH.cons rfl (fun K hK => ?_) AllReadyH.nil)
      · go_simp
        refine hK.out _ _ (trivial) (fun hHeld => ?_)
        clear hK K
        try simp only [Act.put, List.getElem_toArray, List.getElem_cons_zero, List.getElem_cons_succ, List.setIfInBounds_toArray, List.set_cons_zero, List.set_cons_succ]
        refine wpAnyH_ready (rs := [3]) (by kernel_rfl) (by simp) ?_
        refine AllReadyH.cons rfl (fun K hK => ?_) AllReadyH.nil
        go_simp
        (with_reducible refine kI.out.mono ?_); rintro en w10 ⟨rfl, hR, hm⟩; dsimp only at hR ⊢
        have i3 := hc.out w10 hm hR
        have how := Lib.hid (hwo.out w10 hm)
        replace hR := Lib.hid hR
        replace hm := Lib.hid hm
        go_wp2_with fail
        refine hK.out _ _ (trivial) (fun hHeld => ?_)
        clear hK K
        try simp only [Act.put, List.getElem_toArray, List.getElem_cons_zero, List.getElem_cons_succ, List.setIfInBounds_toArray, List.set_cons_zero, List.set_cons_succ]
        refine wpAnyH_ready (rs := [4]) (by kernel_rfl) (by simp) ?_
        refine AllReadyH.cons rfl (fun K hK => ?_) AllReadyH.nil
        go_simp
        refine hK.out _ _ (trivial) (fun hHeld => ?_)
        clear hK K
        try simp only [Act.put, List.getElem_toArray, List.getElem_cons_zero, List.getElem_cons_succ, List.setIfInBounds_toArray, List.set_cons_zero, List.set_cons_succ]
        refine wpAnyH_ready (rs := [5]) (by kernel_rfl) (by simp) ?_
        refine AllReadyH.cons rfl (fun K hK => ?_) AllReadyH.nil
        refine step_appP rfl (.tmp 38) (.tmp 41) rfl rfl how.out rfl (rdp_one w10 25 w10.heap.size rfl d) (by omega) ?_
        intro A11 c11 w11 ho hmA hA
        obtain ⟨f1, f2, f3, f4, f5, f6, f7⟩ := hf.out w10 A11 c11 w11 hm.out hR.out ho hmA hA
        replace f3 := Lib.hid f3
        replace f4 := Lib.hid f4
        replace f5 := Lib.hid f5
        replace f6 := Lib.hid f6
        replace f7 := Lib.hid f7
        clear ho hmA hA
        refine hK.out _ _ (trivial) (fun hHeld => ?_)
        clear hK K
        try simp only [Act.put, List.getElem_toArray, List.getElem_cons_zero, List.getElem_cons_succ, List.setIfInBounds_toArray, List.set_cons_zero, List.set_cons_succ]
        refine wpAnyH_take (i := 6) (v := ?_) rfl (by kernel_rfl) (by kernel_rfl) (by kernel_rfl) (fun _ _ _ h => h) (Or.inl ⟨by rfl, ?_⟩) (by assumption) ?_
        rotate_left
        · intro W hSw; (try dsimp only at hSw); go_simp; (try with_reducible rfl)
        try simp only [Act.put, List.getElem_toArray, List.getElem_cons_zero, List.getElem_cons_succ, List.setIfInBounds_toArray, List.set_cons_zero, List.set_cons_succ]
        refine wpAnyH_ready (rs := [7]) (by kernel_rfl) (by simp) ?_
        refine AllReadyH.cons rfl (fun K hK => ?_) AllReadyH.nil
        go_simp
        refine hK.out _ _ (trivial) (fun hHeld => ?_)
        clear hK K
        try simp only [Act.put, List.getElem_toArray, List.getElem_cons_zero, List.getElem_cons_succ, List.setIfInBounds_toArray, List.set_cons_zero, List.set_cons_succ]
        refine wpAnyH_done (by kernel_rfl) ?_ _
        clear hHeld f1 f2 i2 i3
        go_wp2_with fail
        go_roundw
        case rel => exact ⟨j + 1, by go_num, by omega, f3.out, A11, c11, pre ++ [d], ea, la, f4.out, f5.out, lr2.out, f6.out, f7.out⟩
        case measure => simp [intOf]; omega
      · go_simp
        (with_reducible refine kI.out.mono ?_); rintro en w10 ⟨rfl, hR, hm⟩; dsimp only at hR ⊢
        have i3 := hc.out w10 hm hR
        have how := Lib.hid (hwo.out w10 hm)
        replace hR := Lib.hid hR
        replace hm := Lib.hid hm
        go_wp2_with fail
        refine hK.out _ _ (trivial) (fun hHeld => ?_)
        clear hK K
        try simp only [Act.put, List.getElem_toArray, List.getElem_cons_zero, List.getElem_cons_succ, List.setIfInBounds_toArray, List.set_cons_zero, List.set_cons_succ]
        refine wpAnyH_ready (rs := [1, 4]) (by kernel_rfl) (by simp) ?_
        refine AllReadyH.cons rfl (fun K hK => ?_) (AllReadyH.cons rfl (fun K hK => ?_) AllReadyH.nil)
        · go_simp
          refine hK.out _ _ (trivial) (fun hHeld => ?_)
          clear hK K
          try simp only [Act.put, List.getElem_toArray, List.getElem_cons_zero, List.getElem_cons_succ, List.setIfInBounds_toArray, List.set_cons_zero, List.set_cons_succ]
          refine wpAnyH_ready (rs := [4]) (by kernel_rfl) (by simp) ?_
          refine AllReadyH.cons rfl (fun K hK => ?_) AllReadyH.nil
          go_simp
          refine hK.out _ _ (trivial) (fun hHeld => ?_)
          clear hK K
          try simp only [Act.put, List.getElem_toArray, List.getElem_cons_zero, List.getElem_cons_succ, List.setIfInBounds_toArray, List.set_cons_zero, List.set_cons_succ]
          refine wpAnyH_ready (rs := [5]) (by kernel_rfl) (by simp) ?_
          refine AllReadyH.cons rfl (fun K hK => ?_) AllReadyH.nil
          refine step_appP rfl (.tmp 38) (.tmp 41) rfl rfl how.out rfl (rdp_one w10 25 w10.heap.size rfl d) (by omega) ?_
          intro A11 c11 w11 ho hmA hA
          obtain ⟨f1, f2, f3, f4, f5, f6, f7⟩ := hf.out w10 A11 c11 w11 hm.out hR.out ho hmA hA
          replace f3 := Lib.hid f3
          replace f4 := Lib.hid f4
          replace f5 := Lib.hid f5
          replace f6 := Lib.hid f6
          replace f7 := Lib.hid f7
          clear ho hmA hA
          refine hK.out _ _ (trivial) (fun hHeld => ?_)
          clear hK K
          try simp only [Act.put, List.getElem_toArray, List.getElem_cons_zero, List.getElem_cons_succ, List.setIfInBounds_toArray, List.set_cons_zero, List.set_cons_succ]
          refine wpAnyH_take (i := 6) (v := ?_) rfl (by kernel_rfl) (by kernel_rfl) (by kernel_rfl) (fun _ _ _ h => h) (Or.inl ⟨by rfl, ?_⟩) (by assumption) ?_
          rotate_left
          · intro W hSw; (try dsimp only at hSw); go_simp; (try with_reducible rfl)
          try simp only [Act.put, List.getElem_toArray, List.getElem_cons_zero, List.getElem_cons_succ, List.setIfInBounds_toArray, List.set_cons_zero, List.set_cons_succ]
          refine wpAnyH_ready (rs := [7]) (by kernel_rfl) (by simp) ?_
          refine AllReadyH.cons rfl (fun K hK => ?_) AllReadyH.nil
          go_simp
          refine hK.out _ _ (trivial) (fun hHeld => ?_)
          clear hK K
          try simp only [Act.put, List.getElem_toArray, List.getElem_cons_zero, List.getElem_cons_succ, List.setIfInBounds_toArray, List.set_cons_zero, List.set_cons_succ]
          refine wpAnyH_done (by kernel_rfl) ?_ _
          clear hHeld f1 f2 i2 i3
          go_wp2_with fail
          go_roundw
          case rel => exact ⟨j + 1, by go_num, by omega, f3.out, A11, c11, pre ++ [d], ea, la, f4.out, f5.out, lr2.out, f6.out, f7.out⟩
          case measure => simp [intOf]; omega
        · go_simp
          have i4 : (w10.alloc (.cells #[.int .i64 d.r, .int .i64 d.n] 25)).cell? ⟨q, 11, none⟩ = some (.slice A9 j cp) := ((Mod.refl none_ w10).alloc _).cell_some i3 (fun h => h)
          refine hK.out _ _ (trivial) (fun hHeld => ?_)
          clear hK K
          try simp only [Act.put, List.getElem_toArray, List.getElem_cons_zero, List.getElem_cons_succ, List.setIfInBounds_toArray, List.set_cons_zero, List.set_cons_succ]
          refine wpAnyH_ready (rs := [1]) (by kernel_rfl) (by simp) ?_
          refine AllReadyH.cons rfl (fun K hK => ?_) AllReadyH.nil
          go_simp
          refine hK.out _ _ (trivial) (fun hHeld => ?_)
          clear hK K
          try simp only [Act.put, List.getElem_toArray, List.getElem_cons_zero, List.getElem_cons_succ, List.setIfInBounds_toArray, List.set_cons_zero, List.set_cons_succ]
          refine wpAnyH_ready (rs := [5]) (by kernel_rfl) (by simp) ?_
          refine AllReadyH.cons rfl (fun K hK => ?_) AllReadyH.nil
          refine step_appP rfl (.tmp 38) (.tmp 41) rfl rfl how.out rfl (rdp_one w10 25 w10.heap.size rfl d) (by omega) ?_
          intro A11 c11 w11 ho hmA hA
          obtain ⟨f1, f2, f3, f4, f5, f6, f7⟩ := hf.out w10 A11 c11 w11 hm.out hR.out ho hmA hA
          replace f3 := Lib.hid f3
          replace f4 := Lib.hid f4
          replace f5 := Lib.hid f5
          replace f6 := Lib.hid f6
          replace f7 := Lib.hid f7
          clear ho hmA hA
          refine hK.out _ _ (trivial) (fun hHeld => ?_)
          clear hK K
          try simp only [Act.put, List.getElem_toArray, List.getElem_cons_zero, List.getElem_cons_succ, List.setIfInBounds_toArray, List.set_cons_zero, List.set_cons_succ]
          refine wpAnyH_take (i := 6) (v := ?_) rfl (by kernel_rfl) (by kernel_rfl) (by kernel_rfl) (fun _ _ _ h => h) (Or.inl ⟨by rfl, ?_⟩) (by assumption) ?_
          rotate_left
          · intro W hSw; (try dsimp only at hSw); go_simp; (try with_reducible rfl)
          try simp only [Act.put, List.getElem_toArray, List.getElem_cons_zero, List.getElem_cons_succ, List.setIfInBounds_toArray, List.set_cons_zero, List.set_cons_succ]
          refine wpAnyH_ready (rs := [7]) (by kernel_rfl) (by simp) ?_
          refine AllReadyH.cons rfl (fun K hK => ?_) AllReadyH.nil
          go_simp
          refine hK.out _ _ (trivial) (fun hHeld => ?_)
          clear hK K
          try simp only [Act.put, List.getElem_toArray, List.getElem_cons_zero, List.getElem_cons_succ, List.setIfInBounds_toArray, List.set_cons_zero, List.set_cons_succ]
          refine wpAnyH_done (by kernel_rfl) ?_ _
          clear hHeld f1 f2 i2 i3
          go_wp2_with fail
          go_roundw
          case rel => exact ⟨j + 1, by go_num, by omega, f3.out, A11, c11, pre ++ [d], ea, la, f4.out, f5.out, lr2.out, f6.out, f7.out⟩
          case measure => simp [intOf]; omega
    · obtain rfl : j = k := by omega
      rw [Nat.sub_self] at lr
      obtain ⟨rfl, hel⟩ := lr.done
      simp only [Prod.mk.injEq] at hel
      obtain ⟨rfl, rfl⟩ := hel
      clear lr hl0
      replace st := Lib.hid st
      replace lo := Lib.hid lo
      replace ls := Lib.hid ls
      go_wp2_with (first | (refine wpList_load_row rfl 33 (.tmp 4) rfl q rfl _ _ _ _ st.out.var Tryz.underlying33 rfl entry_size ?_) | (refine wpList_store_blk rfl 33 (.tmp 2) (.tmp 45) rfl w.heap.size 0 _ rfl rfl st.out.res (by simp) entry_size (by rfl) #[.int .i64 0, .int .i64 0, .int .i64 0, .string ⟨#[]⟩, .string ⟨#[]⟩, .int .i64 0, .slice none 0 0, .int .i64 0, .int .i64 0, .string ⟨#[]⟩, .bool true, .slice A9 j cp] rfl ?_; intro w14 hb14 hm14; replace hb14 := Lib.hid hb14; replace hm14 := Lib.hid hm14))
      refine ret_row_tmp rfl w.heap.size rfl hb14.out Tryz.underlying33 rfl entry_size (.int .i64 0) rfl rfl ?_
      have hqw := st.out.qw
      have hMf := st.out.mod.join hm14.out (fun i hi => by have : i = w.heap.size := hi; omega)
      have hRf := st.out.rd.mod hm14.out (fun hh => st.out.gw hh.symm) (fun hh => st.out.bw hh.symm)
      have hDf : RdP w14 A9 j pre := Rd.mod lo.out.ow.rd hm14.out (fun i hi hh => by have : i = w.heap.size := hh; have := lo.out.fr i hi; omega)
      have hfrD : Fresh w A9 := fun a ha => Nat.le_of_lt (lo.out.fr a.block ⟨a, ha, rfl⟩)
      have hLf : OdM w14 od0 ⟨none, 0, 0⟩ := od0_mem _
      exact ⟨⟨od0, true, pre⟩, 0, e, l, ⟨none, 0, 0⟩, ⟨A9, j, cp⟩, hfin.out, rfl, ⟨hLf, hDf, lo.out.ow.2.1⟩, (fun a ha => by cases ha), hfrD, hRf, hMf⟩
set_option maxRecDepth 100000 in
set_option maxHeartbeats 8000000 in
theorem entry_e (w : World) (g B e0 : Nat) (l0 : List UInt8) (h : Rdr w g B l0 e0) (hBl : B < w.heap.size) (e1 : Nat) (l1 : List UInt8) (h1 : qg 0 1 (e0, l0) = (0, e1, l1)) (s : List UInt8) (e2 : Nat) (l2 : List UInt8) (h2 : qt 1000 (e1, l1) = (s, e2, l2)) (o : Od) (f : Nat) (ho : rdOrd s = (o, f)) (hf : f ≠ 0) : Calls Tryz.prog 37 #[.pointer (some ⟨g, 0, none⟩)] w (EnPost w g B (rdEn (e0, l0))) := by
  have hfin : Hid (rdEn (e0, l0) = ((⟨od0, false, []⟩, f), e2, l2)) := Lib.hid (by unfold rdEn; rw [bd_of h1, if_neg (by omega), bd_of h2, ho]; unfold rdEnO; rw [if_pos hf]; rfl)
  have hf2 : ((f : Int) != 0) = true := by simp; omega
  replace h2 := Lib.hid h2
  replace ho := Lib.hid ho
  replace hf := Lib.hid hf
  have hb0 := Blk.new w 33 #[.int .i64 0, .int .i64 0, .int .i64 0, .string ⟨#[]⟩, .string ⟨#[]⟩, .int .i64 0, .slice none 0 0, .int .i64 0, .int .i64 0, .string ⟨#[]⟩, .bool false, .slice none 0 0]
  have hm0 := (Mod.refl none_ w).alloc (.cells #[.int .i64 0, .int .i64 0, .int .i64 0, .string ⟨#[]⟩, .string ⟨#[]⟩, .int .i64 0, .slice none 0 0, .int .i64 0, .int .i64 0, .string ⟨#[]⟩, .bool false, .slice none 0 0] 33)
  have hR0 := h.mod0 hm0
  have hgl := h.lt
  have hng : ¬ w.heap.size = g := by omega
  clear h
  replace h1 := Lib.hid h1
  replace hb0 := Lib.hid hb0
  replace hm0 := Lib.hid hm0
  go_enter Tryz.func37, Tryz.ntmps37
  go_wp2_with fail
  refine (lsmall_r h1.out hR0).mono ?_; rintro en w2 ⟨rfl, hR, hm⟩; dsimp only at hR ⊢
  have hbr := hb0.out.mod hm (fun hh => hng hh)
  have hM := (hm0.out.any (only g)).trans hm
  have hsz := hm.size
  simp only [World.size_alloc] at hsz
  have st : FillC w 33 #[.int .i64 0, .int .i64 0, .int .i64 0, .string ⟨#[]⟩, .string ⟨#[]⟩, .int .i64 0, .slice none 0 0, .int .i64 0, .int .i64 0, .string ⟨#[]⟩, .bool false, .slice none 0 0] g B w2.heap.size (w2.alloc (.cells #[.int .i64 0, .int .i64 0, .int .i64 0, .string ⟨#[]⟩, .string ⟨#[]⟩, .int .i64 0, .slice none 0 0, .int .i64 0, .int .i64 0, .string ⟨#[]⟩, .bool false, .slice none 0 0] 33)) #[.int .i64 0, .int .i64 0, .int .i64 0, .string ⟨#[]⟩, .string ⟨#[]⟩, .int .i64 0, .slice none 0 0, .int .i64 0, .int .i64 0, .string ⟨#[]⟩, .bool false, .slice none 0 0] e1 l1 :=
    ⟨hR.mod0 ((Mod.refl none_ w2).alloc _), hbr.alloc _, Blk.new w2 _ _, hM.alloc _, by omega, by omega, by omega, by omega, by omega, by simp only [World.size_alloc]; omega⟩
  clear hR hm hbr hM hsz hR0
  generalize hq : w2.heap.size = q at st
  replace st := Lib.hid st
  go_wp2_with fail
  replace hq := Lib.hid hq
  refine (rtext_r h2.out (by omega) st.out.rd).mono ?_; rintro en w3 ⟨rfl, hR, hm⟩; dsimp only at hR ⊢
  replace st := Lib.hid (st.out.call hm hR); clear hm hR
  go_wp2_with (show wpList _ _ _ (⟨some 23, _, _, _, _, _⟩ :: _) _ _; go_loud (refine conv_b rfl (.tmp 22) rfl rfl ?_; intro A2 c2 w4 hr2 hf2 hc2 hm2 hl2; replace st := Lib.hid (st.out.mod0 hm2); replace hr2 := Lib.hid hr2; clear hf2 hc2 hm2 hl2))
  have hsl := qt_in h2.out (by omega)
  refine (orderRead_ok _ A2 s.length c2 s hr2.out (by omega)).mono ?_
  rintro en w5 ⟨o', f', L, he, rfl, hO, hfr, hm⟩
  rw [ho.out] at he
  simp only [Prod.mk.injEq] at he
  obtain ⟨rfl, rfl⟩ := he
  dsimp only
  have hn5 := st.out.new_ne
  replace st := Lib.hid (st.out.mod0 hm); clear hr2
  clear hO hfr hm
  have hms := (Mod.refl none_ w5).alloc (.cells #[.int .i64 o.c, .int .i64 o.s, .int .i64 o.k, .string (txt o.acct), .string (txt o.peer), .int .i64 o.sum, .slice L.a L.n L.c, .int .i64 o.per, .int .i64 o.hold, .string (txt o.note)] 30)
  replace st := Lib.hid (st.out.mod0 hms); clear hms
  go_wp2_with (first | (refine wpList_load_row rfl 33 (.tmp 4) rfl q rfl _ _ _ _ st.out.var Tryz.underlying33 rfl entry_size ?_) | (refine wpList_store_blk rfl 33 (.tmp 2) (.tmp 29) rfl w.heap.size 0 _ rfl rfl st.out.res (by simp) entry_size (by rfl) #[.int .i64 0, .int .i64 0, .int .i64 0, .string ⟨#[]⟩, .string ⟨#[]⟩, .int .i64 0, .slice none 0 0, .int .i64 0, .int .i64 0, .string ⟨#[]⟩, .bool false, .slice none 0 0] rfl ?_; intro w14 hb14 hm14; replace hb14 := Lib.hid hb14; replace hm14 := Lib.hid hm14))
  refine ret_row_tmp rfl w.heap.size rfl hb14.out Tryz.underlying33 rfl entry_size (.int .i64 (f : Int)) rfl rfl ?_
  have hMf := st.out.mod.join hm14.out (fun i hi => by have : i = w.heap.size := hi; omega)
  have hRf := st.out.rd.mod hm14.out (fun hh => st.out.gw hh.symm) (fun hh => st.out.bw hh.symm)
  exact ⟨⟨od0, false, []⟩, f, e2, l2, ⟨none, 0, 0⟩, ⟨none, 0, 0⟩, hfin.out, rfl, ⟨od0_mem _, Rd.none_, Nat.le_refl _⟩, (fun a ha => by cases ha), (fun a ha => by cases ha), hRf, hMf⟩
set_option maxRecDepth 100000 in
set_option maxHeartbeats 8000000 in
theorem entry_o (w : World) (g B e0 : Nat) (l0 : List UInt8) (h : Rdr w g B l0 e0) (hBl : B < w.heap.size) (e1 : Nat) (l1 : List UInt8) (h1 : qg 0 1 (e0, l0) = (0, e1, l1)) (s : List UInt8) (e2 : Nat) (l2 : List UInt8) (h2 : qt 1000 (e1, l1) = (s, e2, l2)) (o : Od) (ho : rdOrd s = (o, 0)) : Calls Tryz.prog 37 #[.pointer (some ⟨g, 0, none⟩)] w (EnPost w g B (rdEn (e0, l0))) := by
  obtain ⟨k0, e3, l3, h3⟩ := tri_ (qg 0 100 (e2, l2))
  obtain ⟨ds, e4, l4, h4⟩ := tri_ (rdList rdIs k0.toNat (e3, l3))
  have hfin : Hid (rdEn (e0, l0) = ((⟨o, false, ds⟩, 0), e4, l4)) := Lib.hid (by unfold rdEn; rw [bd_of h1, if_neg (by omega), bd_of h2, ho]; unfold rdEnO; rw [if_neg (by omega), bd_of h3, bd_of h4]; rfl)
  have hk := qg_in h3
  obtain ⟨k, rfl⟩ : ∃ k : Nat, k0 = (k : Int) := ⟨k0.toNat, by omega⟩
  have hk100 : k ≤ 100 := by omega
  have hl0 : Hid (ListRel rdIs ds (e4, l4) k [] (e3, l3)) := Lib.hid ⟨ds, by simpa using h4, rfl⟩
  clear h4 hk
  replace h2 := Lib.hid h2
  replace h3 := Lib.hid h3
  replace ho := Lib.hid ho
  have hb0 := Blk.new w 33 #[.int .i64 0, .int .i64 0, .int .i64 0, .string ⟨#[]⟩, .string ⟨#[]⟩, .int .i64 0, .slice none 0 0, .int .i64 0, .int .i64 0, .string ⟨#[]⟩, .bool false, .slice none 0 0]
  have hm0 := (Mod.refl none_ w).alloc (.cells #[.int .i64 0, .int .i64 0, .int .i64 0, .string ⟨#[]⟩, .string ⟨#[]⟩, .int .i64 0, .slice none 0 0, .int .i64 0, .int .i64 0, .string ⟨#[]⟩, .bool false, .slice none 0 0] 33)
  have hR0 := h.mod0 hm0
  have hgl := h.lt
  have hng : ¬ w.heap.size = g := by omega
  clear h
  replace h1 := Lib.hid h1
  replace hb0 := Lib.hid hb0
  replace hm0 := Lib.hid hm0
  go_enter Tryz.func37, Tryz.ntmps37
  go_wp2_with fail
  refine (lsmall_r h1.out hR0).mono ?_; rintro en w2 ⟨rfl, hR, hm⟩; dsimp only at hR ⊢
  have hbr := hb0.out.mod hm (fun hh => hng hh)
  have hM := (hm0.out.any (only g)).trans hm
  have hsz := hm.size
  simp only [World.size_alloc] at hsz
  have st : FillC w 33 #[.int .i64 0, .int .i64 0, .int .i64 0, .string ⟨#[]⟩, .string ⟨#[]⟩, .int .i64 0, .slice none 0 0, .int .i64 0, .int .i64 0, .string ⟨#[]⟩, .bool false, .slice none 0 0] g B w2.heap.size (w2.alloc (.cells #[.int .i64 0, .int .i64 0, .int .i64 0, .string ⟨#[]⟩, .string ⟨#[]⟩, .int .i64 0, .slice none 0 0, .int .i64 0, .int .i64 0, .string ⟨#[]⟩, .bool false, .slice none 0 0] 33)) #[.int .i64 0, .int .i64 0, .int .i64 0, .string ⟨#[]⟩, .string ⟨#[]⟩, .int .i64 0, .slice none 0 0, .int .i64 0, .int .i64 0, .string ⟨#[]⟩, .bool false, .slice none 0 0] e1 l1 :=
    ⟨hR.mod0 ((Mod.refl none_ w2).alloc _), hbr.alloc _, Blk.new w2 _ _, hM.alloc _, by omega, by omega, by omega, by omega, by omega, by simp only [World.size_alloc]; omega⟩
  clear hR hm hbr hM hsz hR0
  generalize hq : w2.heap.size = q at st
  replace st := Lib.hid st
  go_wp2_with fail
  replace hq := Lib.hid hq
  refine (rtext_r h2.out (by omega) st.out.rd).mono ?_; rintro en w3 ⟨rfl, hR, hm⟩; dsimp only at hR ⊢
  replace st := Lib.hid (st.out.call hm hR); clear hm hR
  go_wp2_with (show wpList _ _ _ (⟨some 23, _, _, _, _, _⟩ :: _) _ _; go_loud (refine conv_b rfl (.tmp 22) rfl rfl ?_; intro A2 c2 w4 hr2 hf2 hc2 hm2 hl2; replace st := Lib.hid (st.out.mod0 hm2); replace hr2 := Lib.hid hr2; clear hf2 hc2 hm2 hl2))
  have hsl := qt_in h2.out (by omega)
  refine (orderRead_ok _ A2 s.length c2 s hr2.out (by omega)).mono ?_
  rintro en w5 ⟨o', f', L, he, rfl, hO, hfr, hm⟩
  rw [ho.out] at he
  simp only [Prod.mk.injEq] at he
  obtain ⟨rfl, rfl⟩ := he
  dsimp only
  have hn5 := st.out.new_ne
  replace st := Lib.hid (st.out.mod0 hm); clear hr2
  have hms := (Mod.refl none_ w5).alloc (.cells #[.int .i64 o.c, .int .i64 o.s, .int .i64 o.k, .string (txt o.acct), .string (txt o.peer), .int .i64 o.sum, .slice L.a L.n L.c, .int .i64 o.per, .int .i64 o.hold, .string (txt o.note)] 30)
  have h7 := Lib.hid (Blk.new w5 30 #[.int .i64 o.c, .int .i64 o.s, .int .i64 o.k, .string (txt o.acct), .string (txt o.peer), .int .i64 o.sum, .slice L.a L.n L.c, .int .i64 o.per, .int .i64 o.hold, .string (txt o.note)])
  replace st := Lib.hid (st.out.mod0 hms)
  obtain ⟨N, hN0⟩ : ∃ N, N = (w5.alloc (.cells #[.int .i64 o.c, .int .i64 o.s, .int .i64 o.k, .string (txt o.acct), .string (txt o.peer), .int .i64 o.sum, .slice L.a L.n L.c, .int .i64 o.per, .int .i64 o.hold, .string (txt o.note)] 30)).heap.size := ⟨_, rfl⟩
  have ls0 := Lib.hid (LegsSafe.of (N := N) (g := g) (q := q) (hO.mod0 hms) hfr hn5.2.1 hn5.2.2.2 (by omega))
  have hfr2 := Lib.hid (hfr.later (Nat.le_of_lt hn5.1 : w.heap.size ≤ w4.heap.size))
  have hfr3 := Lib.hid (show ∀ a, L.a = some a → w.heap.size < a.block from fun a ha => Nat.lt_of_lt_of_le hn5.1 (hfr a ha))
  replace hN0 := Lib.hid hN0
  clear hms hO hfr hm hn5
  go_wp2_with (first | (refine wpList_load_row rfl 30 (.tmp 7) rfl w5.heap.size rfl _ _ _ _ h7.out Tryz.underlying30 rfl order_size ?_) | (refine wpList_store_blk rfl 30 (.tmp 32) (.tmp 31) rfl q 0 _ rfl rfl st.out.var (by simp) order_size (by rfl) #[.int .i64 o.c, .int .i64 o.s, .int .i64 o.k, .string (txt o.acct), .string (txt o.peer), .int .i64 o.sum, .slice L.a L.n L.c, .int .i64 o.per, .int .i64 o.hold, .string (txt o.note), .bool false, .slice none 0 0] rfl ?_; intro w7 hb7 hm7; replace hb7 := Lib.hid hb7; replace hm7 := Lib.hid hm7))
  replace st := Lib.hid (st.out.turn hm7.out hb7.out)
  have ls := Lib.hid (ls0.out.turn hm7.out)
  have hN := Lib.hid (show N ≤ w7.heap.size by have := hN0.out; have := hm7.out.size; omega)
  clear ls0 hb7 hm7 h7
  refine (lsmall_r h3.out st.out.rd).mono ?_; rintro en w8 ⟨rfl, hR, hm⟩; dsimp only at hR ⊢
  replace ls := Lib.hid (ls.out.call hm)
  have hN8 : N ≤ w8.heap.size := Nat.le_trans hN.out hm.size
  replace st := Lib.hid (st.out.call hm hR); clear hm hR
  go_wp2_with fail
  go_loopw [35] (fun v wr => ∃ j : Nat, v = .int .i64 j ∧ j ≤ k ∧ N ≤ wr.heap.size ∧ ∃ A cp pre e l, FillC w 33 #[.int .i64 0, .int .i64 0, .int .i64 0, .string ⟨#[]⟩, .string ⟨#[]⟩, .int .i64 0, .slice none 0 0, .int .i64 0, .int .i64 0, .string ⟨#[]⟩, .bool false, .slice none 0 0] g B q wr #[.int .i64 o.c, .int .i64 o.s, .int .i64 o.k, .string (txt o.acct), .string (txt o.peer), .int .i64 o.sum, .slice L.a L.n L.c, .int .i64 o.per, .int .i64 o.hold, .string (txt o.note), .bool false, .slice A j cp] e l ∧ ListOwn w 25 2 g B q wr A j cp (iss pre) ∧ ListRel rdIs ds (e4, l4) (k - j) pre (e, l) ∧ LegsSafe N g q wr o L ∧ ∀ i, fp A i → N ≤ i) (fun v _ => k - (intOf v).toNat)
  case atStart => exact ⟨0, rfl, by omega, hN8, none, 0, [], e3, l3, st.out, ListOwn.nil _ _ _ _ _ _ _, hl0.out, ls.out, (fun i hi => by obtain ⟨a, ha, _⟩ := hi; cases ha)⟩
  case round =>
    clear st ls hN8 hN
    obtain ⟨j, rfl, hj, hN, A9, cp, pre, e, l, st, lo, lr, ls, hA9⟩ := hrel
    by_cases hlt : j < k
    · obtain ⟨d, ea, la, ha⟩ := tri_ (rdIs (e, l))
      rw [show k - j = (k - (j + 1)) + 1 by omega] at lr
      have lr2 := Lib.hid (lr.step ha)
      clear lr
      have i2 : wr.cell? ⟨q, 11, none⟩ = some (.slice A9 j cp) := st.var.cell_ rfl
      have hm0 := (Mod.refl none_ wr).drew
      have kI := Lib.hid (inst_r ha st.drew.rd st.drew.bl)
      have hfinish : ∀ (w10 : World) (A11 : Option Addr) (c11 : Nat) (w11 : World), Mod (only g) wr.drew w10 → Rdr w10 g B la ea → OwP w11 A11 (j + 1) c11 (pre ++ [d]) → Mod (fp A9) (w10.alloc (.cells #[.int .i64 d.r, .int .i64 d.n] 25)) w11 → (A11 = A9 ∨ A11 = some ⟨(w10.alloc (.cells #[.int .i64 d.r, .int .i64 d.n] 25)).heap.size, 0, none⟩) →
          w11.cell? ⟨q, 11, none⟩ = some (.slice A9 j cp) ∧ w11.frozen? ⟨q, 11, none⟩ = false ∧ N ≤ (w11.setCell ⟨q, 11, none⟩ (.slice A11 (j + 1) c11)).heap.size ∧ FillC w 33 #[.int .i64 0, .int .i64 0, .int .i64 0, .string ⟨#[]⟩, .string ⟨#[]⟩, .int .i64 0, .slice none 0 0, .int .i64 0, .int .i64 0, .string ⟨#[]⟩, .bool false, .slice none 0 0] g B q (w11.setCell ⟨q, 11, none⟩ (.slice A11 (j + 1) c11)) #[.int .i64 o.c, .int .i64 o.s, .int .i64 o.k, .string (txt o.acct), .string (txt o.peer), .int .i64 o.sum, .slice L.a L.n L.c, .int .i64 o.per, .int .i64 o.hold, .string (txt o.note), .bool false, .slice A11 (j + 1) c11] ea la ∧ ListOwn w 25 2 g B q (w11.setCell ⟨q, 11, none⟩ (.slice A11 (j + 1) c11)) A11 (j + 1) c11 (iss (pre ++ [d])) ∧ LegsSafe N g q (w11.setCell ⟨q, 11, none⟩ (.slice A11 (j + 1) c11)) o L ∧ ∀ i, fp A11 i → N ≤ i := by
        intro w10 A11 c11 w11 hm hR ho hmA hA
        have m10 := (Mod.refl none_ w10).alloc (.cells #[.int .i64 d.r, .int .i64 d.n] 25)
        have st1 := ((st.drew.call hm hR).mod0 m10)
        have lo1 := (((lo.mod0 hm0).call hm).mod0 m10)
        obtain ⟨lo2, st2⟩ := lo1.appC st1 ho hmA hA
        have ls2 := (((ls.mod0 hm0).call hm).mod0 m10).mod hmA (fun i hi => .inr (.inr (hA9 i hi)))
        have hms := (Mod.refl (only q) w11).set_only 11 (.slice A11 (j + 1) c11)
        have hNN := Nat.le_trans (Nat.le_trans hN hm.size) m10.size
        exact ⟨st2.var.cell_ rfl, st2.var.frozen 11, Nat.le_trans (Nat.le_trans hNN hmA.size) hms.size, st2.store 11 _, lo2.turn hms, ls2.turn hms, newer hA9 hA hNN⟩
      have hf := Lib.hid hfinish
      have cW : ∀ w10, Mod (only g) wr.drew w10 → Rdr w10 g B la ea → w10.cell? ⟨q, 11, none⟩ = some (.slice A9 j cp) := fun w10 hm hR => (st.drew.call hm hR).var.cell_ rfl
      have hc := Lib.hid cW
      have hw : ∀ w10, Mod (only g) wr.drew w10 → OwP (w10.alloc (.cells #[.int .i64 d.r, .int .i64 d.n] 25)) A9 j cp pre := fun w10 hm => (((lo.mod0 hm0).call hm).mod0 ((Mod.refl none_ w10).alloc _)).ow
      have hwo := Lib.hid hw
      have hql := Lib.hid st.var.lt
      clear hfinish cW hw hm0
      replace st := Lib.hid st
      replace lo := Lib.hid lo
      replace ha := Lib.hid ha
      replace ls := Lib.hid ls
      replace hA9 := Lib.hid hA9
      replace hN := Lib.hid hN
      go_wp2_with fail
      refine wp_region_held_drew (S := fun _ => True) (by kernel_rfl) trivial (fun hHeld => ?_)
      refine wpAnyH_take (i := 0) (v := ?_) rfl (by kernel_rfl) (by kernel_rfl) (by kernel_rfl) (fun _ _ _ h => h) (Or.inl ⟨by rfl, ?_⟩) (by assumption) ?_
      rotate_left
      · intro W hSw; (try dsimp only at hSw); go_simp; (try with_reducible rfl)
      try simp only [Act.put, List.getElem_toArray, List.getElem_cons_zero, List.getElem_cons_succ, List.setIfInBounds_toArray, List.set_cons_zero, List.set_cons_succ]
      refine wpAnyH_take (i := 2) (v := ?_) rfl (by kernel_rfl) (by kernel_rfl) (by kernel_rfl) (fun _ _ _ h => h) (Or.inl ⟨by rfl, ?_⟩) (by assumption) ?_
      rotate_left
      · intro W hSw; (try dsimp only at hSw); go_simp; (try with_reducible rfl)
      try simp only [Act.put, List.getElem_toArray, List.getElem_cons_zero, List.getElem_cons_succ, List.setIfInBounds_toArray, List.set_cons_zero, List.set_cons_succ]
      refine wpAnyH_ready (rs := [1, 3]) (by kernel_rfl) (by simp) ?_
      refine AllReadyH.cons rfl (fun K hK => ?_) (AllReadyH.cons rfl (fun K hK => ?_) AllReadyH.nil)
      · go_simp
        refine hK.out _ _ (trivial) (fun hHeld => ?_)
        clear hK K
        try simp only [Act.put, List.getElem_toArray, List.getElem_cons_zero, List.getElem_cons_succ, List.setIfInBounds_toArray, List.set_cons_zero, List.set_cons_succ]
        refine wpAnyH_ready (rs := [3]) (by kernel_rfl) (by simp) ?_
        refine AllReadyH.cons rfl (fun K hK => ?_) AllReadyH.nil
        go_simp
        (with_reducible refine kI.out.mono ?_); rintro en w10 ⟨rfl, hR, hm⟩; dsimp only at hR ⊢
        have i3 := hc.out w10 hm hR
        have how := Lib.hid (hwo.out w10 hm)
        replace hR := Lib.hid hR
        replace hm := Lib.hid hm
        go_wp2_with fail
        refine hK.out _ _ (trivial) (fun hHeld => ?_)
        clear hK K
        try simp only [Act.put, List.getElem_toArray, List.getElem_cons_zero, List.getElem_cons_succ, List.setIfInBounds_toArray, List.set_cons_zero, List.set_cons_succ]
        refine wpAnyH_ready (rs := [4]) (by kernel_rfl) (by simp) ?_
        refine AllReadyH.cons rfl (fun K hK => ?_) AllReadyH.nil
        go_simp
        refine hK.out _ _ (trivial) (fun hHeld => ?_)
        clear hK K
        try simp only [Act.put, List.getElem_toArray, List.getElem_cons_zero, List.getElem_cons_succ, List.setIfInBounds_toArray, List.set_cons_zero, List.set_cons_succ]
        refine wpAnyH_ready (rs := [5]) (by kernel_rfl) (by simp) ?_
        refine AllReadyH.cons rfl (fun K hK => ?_) AllReadyH.nil
        refine step_appP rfl (.tmp 38) (.tmp 41) rfl rfl how.out rfl (rdp_one w10 25 w10.heap.size rfl d) (by omega) ?_
        intro A11 c11 w11 ho hmA hA
        obtain ⟨f1, f2, f3, f4, f5, f6, f7⟩ := hf.out w10 A11 c11 w11 hm.out hR.out ho hmA hA
        replace f3 := Lib.hid f3
        replace f4 := Lib.hid f4
        replace f5 := Lib.hid f5
        replace f6 := Lib.hid f6
        replace f7 := Lib.hid f7
        clear ho hmA hA
        refine hK.out _ _ (trivial) (fun hHeld => ?_)
        clear hK K
        try simp only [Act.put, List.getElem_toArray, List.getElem_cons_zero, List.getElem_cons_succ, List.setIfInBounds_toArray, List.set_cons_zero, List.set_cons_succ]
        refine wpAnyH_take (i := 6) (v := ?_) rfl (by kernel_rfl) (by kernel_rfl) (by kernel_rfl) (fun _ _ _ h => h) (Or.inl ⟨by rfl, ?_⟩) (by assumption) ?_
        rotate_left
        · intro W hSw; (try dsimp only at hSw); go_simp; (try with_reducible rfl)
        try simp only [Act.put, List.getElem_toArray, List.getElem_cons_zero, List.getElem_cons_succ, List.setIfInBounds_toArray, List.set_cons_zero, List.set_cons_succ]
        refine wpAnyH_ready (rs := [7]) (by kernel_rfl) (by simp) ?_
        refine AllReadyH.cons rfl (fun K hK => ?_) AllReadyH.nil
        go_simp
        refine hK.out _ _ (trivial) (fun hHeld => ?_)
        clear hK K
        try simp only [Act.put, List.getElem_toArray, List.getElem_cons_zero, List.getElem_cons_succ, List.setIfInBounds_toArray, List.set_cons_zero, List.set_cons_succ]
        refine wpAnyH_done (by kernel_rfl) ?_ _
        clear hHeld f1 f2 i2 i3
        go_wp2_with fail
        go_roundw
        case rel => exact ⟨j + 1, by go_num, by omega, f3.out, A11, c11, pre ++ [d], ea, la, f4.out, f5.out, lr2.out, f6.out, f7.out⟩
        case measure => simp [intOf]; omega
      · go_simp
        (with_reducible refine kI.out.mono ?_); rintro en w10 ⟨rfl, hR, hm⟩; dsimp only at hR ⊢
        have i3 := hc.out w10 hm hR
        have how := Lib.hid (hwo.out w10 hm)
        replace hR := Lib.hid hR
        replace hm := Lib.hid hm
        go_wp2_with fail
        refine hK.out _ _ (trivial) (fun hHeld => ?_)
        clear hK K
        try simp only [Act.put, List.getElem_toArray, List.getElem_cons_zero, List.getElem_cons_succ, List.setIfInBounds_toArray, List.set_cons_zero, List.set_cons_succ]
        refine wpAnyH_ready (rs := [1, 4]) (by kernel_rfl) (by simp) ?_
        refine AllReadyH.cons rfl (fun K hK => ?_) (AllReadyH.cons rfl (fun K hK => ?_) AllReadyH.nil)
        · go_simp
          refine hK.out _ _ (trivial) (fun hHeld => ?_)
          clear hK K
          try simp only [Act.put, List.getElem_toArray, List.getElem_cons_zero, List.getElem_cons_succ, List.setIfInBounds_toArray, List.set_cons_zero, List.set_cons_succ]
          refine wpAnyH_ready (rs := [4]) (by kernel_rfl) (by simp) ?_
          refine AllReadyH.cons rfl (fun K hK => ?_) AllReadyH.nil
          go_simp
          refine hK.out _ _ (trivial) (fun hHeld => ?_)
          clear hK K
          try simp only [Act.put, List.getElem_toArray, List.getElem_cons_zero, List.getElem_cons_succ, List.setIfInBounds_toArray, List.set_cons_zero, List.set_cons_succ]
          refine wpAnyH_ready (rs := [5]) (by kernel_rfl) (by simp) ?_
          refine AllReadyH.cons rfl (fun K hK => ?_) AllReadyH.nil
          refine step_appP rfl (.tmp 38) (.tmp 41) rfl rfl how.out rfl (rdp_one w10 25 w10.heap.size rfl d) (by omega) ?_
          intro A11 c11 w11 ho hmA hA
          obtain ⟨f1, f2, f3, f4, f5, f6, f7⟩ := hf.out w10 A11 c11 w11 hm.out hR.out ho hmA hA
          replace f3 := Lib.hid f3
          replace f4 := Lib.hid f4
          replace f5 := Lib.hid f5
          replace f6 := Lib.hid f6
          replace f7 := Lib.hid f7
          clear ho hmA hA
          refine hK.out _ _ (trivial) (fun hHeld => ?_)
          clear hK K
          try simp only [Act.put, List.getElem_toArray, List.getElem_cons_zero, List.getElem_cons_succ, List.setIfInBounds_toArray, List.set_cons_zero, List.set_cons_succ]
          refine wpAnyH_take (i := 6) (v := ?_) rfl (by kernel_rfl) (by kernel_rfl) (by kernel_rfl) (fun _ _ _ h => h) (Or.inl ⟨by rfl, ?_⟩) (by assumption) ?_
          rotate_left
          · intro W hSw; (try dsimp only at hSw); go_simp; (try with_reducible rfl)
          try simp only [Act.put, List.getElem_toArray, List.getElem_cons_zero, List.getElem_cons_succ, List.setIfInBounds_toArray, List.set_cons_zero, List.set_cons_succ]
          refine wpAnyH_ready (rs := [7]) (by kernel_rfl) (by simp) ?_
          refine AllReadyH.cons rfl (fun K hK => ?_) AllReadyH.nil
          go_simp
          refine hK.out _ _ (trivial) (fun hHeld => ?_)
          clear hK K
          try simp only [Act.put, List.getElem_toArray, List.getElem_cons_zero, List.getElem_cons_succ, List.setIfInBounds_toArray, List.set_cons_zero, List.set_cons_succ]
          refine wpAnyH_done (by kernel_rfl) ?_ _
          clear hHeld f1 f2 i2 i3
          go_wp2_with fail
          go_roundw
          case rel => exact ⟨j + 1, by go_num, by omega, f3.out, A11, c11, pre ++ [d], ea, la, f4.out, f5.out, lr2.out, f6.out, f7.out⟩
          case measure => simp [intOf]; omega
        · go_simp
          have i4 : (w10.alloc (.cells #[.int .i64 d.r, .int .i64 d.n] 25)).cell? ⟨q, 11, none⟩ = some (.slice A9 j cp) := ((Mod.refl none_ w10).alloc _).cell_some i3 (fun h => h)
          refine hK.out _ _ (trivial) (fun hHeld => ?_)
          clear hK K
          try simp only [Act.put, List.getElem_toArray, List.getElem_cons_zero, List.getElem_cons_succ, List.setIfInBounds_toArray, List.set_cons_zero, List.set_cons_succ]
          refine wpAnyH_ready (rs := [1]) (by kernel_rfl) (by simp) ?_
          refine AllReadyH.cons rfl (fun K hK => ?_) AllReadyH.nil
          go_simp
          refine hK.out _ _ (trivial) (fun hHeld => ?_)
          clear hK K
          try simp only [Act.put, List.getElem_toArray, List.getElem_cons_zero, List.getElem_cons_succ, List.setIfInBounds_toArray, List.set_cons_zero, List.set_cons_succ]
          refine wpAnyH_ready (rs := [5]) (by kernel_rfl) (by simp) ?_
          refine AllReadyH.cons rfl (fun K hK => ?_) AllReadyH.nil
          refine step_appP rfl (.tmp 38) (.tmp 41) rfl rfl how.out rfl (rdp_one w10 25 w10.heap.size rfl d) (by omega) ?_
          intro A11 c11 w11 ho hmA hA
          obtain ⟨f1, f2, f3, f4, f5, f6, f7⟩ := hf.out w10 A11 c11 w11 hm.out hR.out ho hmA hA
          replace f3 := Lib.hid f3
          replace f4 := Lib.hid f4
          replace f5 := Lib.hid f5
          replace f6 := Lib.hid f6
          replace f7 := Lib.hid f7
          clear ho hmA hA
          refine hK.out _ _ (trivial) (fun hHeld => ?_)
          clear hK K
          try simp only [Act.put, List.getElem_toArray, List.getElem_cons_zero, List.getElem_cons_succ, List.setIfInBounds_toArray, List.set_cons_zero, List.set_cons_succ]
          refine wpAnyH_take (i := 6) (v := ?_) rfl (by kernel_rfl) (by kernel_rfl) (by kernel_rfl) (fun _ _ _ h => h) (Or.inl ⟨by rfl, ?_⟩) (by assumption) ?_
          rotate_left
          · intro W hSw; (try dsimp only at hSw); go_simp; (try with_reducible rfl)
          try simp only [Act.put, List.getElem_toArray, List.getElem_cons_zero, List.getElem_cons_succ, List.setIfInBounds_toArray, List.set_cons_zero, List.set_cons_succ]
          refine wpAnyH_ready (rs := [7]) (by kernel_rfl) (by simp) ?_
          refine AllReadyH.cons rfl (fun K hK => ?_) AllReadyH.nil
          go_simp
          refine hK.out _ _ (trivial) (fun hHeld => ?_)
          clear hK K
          try simp only [Act.put, List.getElem_toArray, List.getElem_cons_zero, List.getElem_cons_succ, List.setIfInBounds_toArray, List.set_cons_zero, List.set_cons_succ]
          refine wpAnyH_done (by kernel_rfl) ?_ _
          clear hHeld f1 f2 i2 i3
          go_wp2_with fail
          go_roundw
          case rel => exact ⟨j + 1, by go_num, by omega, f3.out, A11, c11, pre ++ [d], ea, la, f4.out, f5.out, lr2.out, f6.out, f7.out⟩
          case measure => simp [intOf]; omega
    · obtain rfl : j = k := by omega
      rw [Nat.sub_self] at lr
      obtain ⟨rfl, hel⟩ := lr.done
      simp only [Prod.mk.injEq] at hel
      obtain ⟨rfl, rfl⟩ := hel
      clear lr hl0
      replace st := Lib.hid st
      replace lo := Lib.hid lo
      replace ls := Lib.hid ls
      go_wp2_with (first | (refine wpList_load_row rfl 33 (.tmp 4) rfl q rfl _ _ _ _ st.out.var Tryz.underlying33 rfl entry_size ?_) | (refine wpList_store_blk rfl 33 (.tmp 2) (.tmp 45) rfl w.heap.size 0 _ rfl rfl st.out.res (by simp) entry_size (by rfl) #[.int .i64 o.c, .int .i64 o.s, .int .i64 o.k, .string (txt o.acct), .string (txt o.peer), .int .i64 o.sum, .slice L.a L.n L.c, .int .i64 o.per, .int .i64 o.hold, .string (txt o.note), .bool false, .slice A9 j cp] rfl ?_; intro w14 hb14 hm14; replace hb14 := Lib.hid hb14; replace hm14 := Lib.hid hm14))
      refine ret_row_tmp rfl w.heap.size rfl hb14.out Tryz.underlying33 rfl entry_size (.int .i64 0) rfl rfl ?_
      have hqw := st.out.qw
      have hMf := st.out.mod.join hm14.out (fun i hi => by have : i = w.heap.size := hi; omega)
      have hRf := st.out.rd.mod hm14.out (fun hh => st.out.gw hh.symm) (fun hh => st.out.bw hh.symm)
      have hDf : RdP w14 A9 j pre := Rd.mod lo.out.ow.rd hm14.out (fun i hi hh => by have : i = w.heap.size := hh; have := lo.out.fr i hi; omega)
      have hfrD : Fresh w A9 := fun a ha => Nat.le_of_lt (lo.out.fr a.block ⟨a, ha, rfl⟩)
      have hLf := ls.out.m
      have hlN := ls.out.safe
      have hLf2 : OdM w14 o L := ⟨Rd.mod' hLf.rd hm14.out (fun h0 i hi hh => by have : i = w.heap.size := hh; have := hfr2.out; obtain ⟨a, ha, hia⟩ := hi; have := hfr3.out a ha; omega), hLf.cap⟩
      exact ⟨⟨o, false, pre⟩, 0, e, l, L, ⟨A9, j, cp⟩, hfin.out, rfl, ⟨hLf2, hDf, lo.out.ow.2.1⟩, hfr2.out, hfrD, hRf, hMf⟩
theorem entry_ok (w : World) (g B e0 : Nat) (l0 : List UInt8) (h : Rdr w g B l0 e0) (hBl : B < w.heap.size) : Calls Tryz.prog 37 #[.pointer (some ⟨g, 0, none⟩)] w (EnPost w g B (rdEn (e0, l0))) := by
  obtain ⟨x, e1, l1, h1⟩ := tri_ (qg 0 1 (e0, l0))
  by_cases hx : x = 1
  · subst hx
    exact entry_t w g B e0 l0 h hBl e1 l1 h1
  · obtain rfl : x = 0 := by have := qg_in h1; omega
    obtain ⟨s, e2, l2, h2⟩ := tri_ (qt 1000 (e1, l1))
    obtain ⟨o, f, ho⟩ := duo_ (rdOrd s)
    by_cases hf : f = 0
    · subst hf
      exact entry_o w g B e0 l0 h hBl e1 l1 h1 s e2 l2 h2 o ho
    · exact entry_e w g B e0 l0 h hBl e1 l1 h1 s e2 l2 h2 o f ho hf
end Go.Proofs.YtdnbclhidpkpgaaGreat
/-
  log.Read. No condition.
-/
namespace Go.Proofs.YtdnbclhidpkpgaaGreat
set_option linter.unusedVariables false
set_option linter.unusedSimpArgs false
open Go.RowKit
def RcPost (w : World) (r : Rc × Nat) (en : Ending) (w' : World) : Prop :=
  ∃ (x : Rc) (f : Nat) (L D : SV), r = (x, f) ∧ en = .returned (.tuple #[.agg #[.int .i64 x.i.r, .int .i64 x.i.n, .int .i64 x.bal, .int .i64 x.st, .int .i64 x.by_, .int .i64 x.e.o.c, .int .i64 x.e.o.s, .int .i64 x.e.o.k, .string (txt x.e.o.acct), .string (txt x.e.o.peer), .int .i64 x.e.o.sum, .slice L.a L.n L.c, .int .i64 x.e.o.per, .int .i64 x.e.o.hold, .string (txt x.e.o.note), .bool x.e.none, .slice D.a D.n D.c], .int .i64 (f : Int)]) ∧ EnM w' x.e L D ∧ Fresh w L.a ∧ Fresh w D.a ∧ Mod none_ w w'
theorem RcPost.zero {w w' : World} {r : Rc × Nat} {en : Ending} (h : r = (rc0, 3)) (he : en = .returned (.tuple #[.agg #[.int .i64 0, .int .i64 0, .int .i64 0, .int .i64 0, .int .i64 0, .int .i64 0, .int .i64 0, .int .i64 0, .string ⟨#[]⟩, .string ⟨#[]⟩, .int .i64 0, .slice none 0 0, .int .i64 0, .int .i64 0, .string ⟨#[]⟩, .bool false, .slice none 0 0], .int .i64 3])) (hm : Mod none_ w w') : RcPost w r en w' :=
  ⟨rc0, 3, ⟨none, 0, 0⟩, ⟨none, 0, 0⟩, h, he, en0_mem _, (fun a ha => by cases ha), (fun a ha => by cases ha), hm⟩
/-- a step of the reader's last look -/
structure EndSt (w : World) (t : TypeId) (z : Array Value) (g B q : Nat) (W : World) (cs : Array Value) : Prop where
  res : Blk W w.heap.size t z
  var : Blk W q t cs
  mod : Mod (only g) w W
  gw : w.heap.size ≠ g
  qg : q ≠ g
theorem FillC.toEnd {w : World} {t : TypeId} {z : Array Value} {g B q : Nat} {W : World} {cs : Array Value} {e : Nat} {l : List UInt8} (h : FillC w t z g B q W cs e l) : EndSt w t z g B q W cs := ⟨h.res, h.var, h.mod, h.gw, h.qg⟩
theorem FillC.after {w : World} {t : TypeId} {z : Array Value} {g B q : Nat} {W W' : World} {cs : Array Value} {e : Nat} {l : List UInt8} (h : FillC w t z g B q W cs e l) (hm : Mod (only g) W W') : EndSt w t z g B q W' cs :=
  ⟨h.res.mod hm (fun hh => h.gw hh), h.var.mod hm (fun hh => h.qg hh), h.mod.trans hm, h.gw, h.qg⟩
theorem EndSt.mod0' {w : World} {t : TypeId} {z : Array Value} {g B q : Nat} {W W' : World} {cs : Array Value} (h : EndSt w t z g B q W cs) (hm : Mod none_ W W') : EndSt w t z g B q W' cs :=
  ⟨h.res.mod hm (fun hh => hh), h.var.mod hm (fun hh => hh), h.mod.trans (hm.any _), h.gw, h.qg⟩
theorem Mod.drop_new {w W : World} {g : Nat} (h : Mod (only g) w W) (hg : w.heap.size ≤ g) : Mod none_ w W := ⟨h.os, h.tape, h.output, h.size, fun k hk _ => h.block k hk (fun hh => by have : k = g := hh; omega)⟩
theorem EnM.safe {W W' : World} {v : En} {L D : SV} (h : EnM W v L D) {P : Nat → Prop} (hm : Mod P W W') (hL : ∀ a, L.a = some a → ¬ P a.block) (hD : ∀ a, D.a = some a → ¬ P a.block) : EnM W' v L D :=
  ⟨⟨Rd.mod h.od.rd hm (fun k hk => by obtain ⟨a, ha, rfl⟩ := hk; exact hL a ha), h.od.cap⟩, Rd.mod h.rd hm (fun k hk => by obtain ⟨a, ha, rfl⟩ := hk; exact hD a ha), h.cap⟩
set_option maxRecDepth 100000 in
set_option maxHeartbeats 8000000 in
theorem logRead_ok (w : World) (A : Option Addr) (n c : Nat) (b : List UInt8) (h : RdB w A n b) (hn : n ≤ 100000000) : Calls Tryz.prog 10 #[.slice A n c] w (RcPost w (rdRec b)) := by
  have hb0 := Blk.new w 37 #[.int .i64 0, .int .i64 0, .int .i64 0, .int .i64 0, .int .i64 0, .int .i64 0, .int .i64 0, .int .i64 0, .string ⟨#[]⟩, .string ⟨#[]⟩, .int .i64 0, .slice none 0 0, .int .i64 0, .int .i64 0, .string ⟨#[]⟩, .bool false, .slice none 0 0]
  have hm0 := (Mod.refl none_ w).alloc (.cells #[.int .i64 0, .int .i64 0, .int .i64 0, .int .i64 0, .int .i64 0, .int .i64 0, .int .i64 0, .int .i64 0, .string ⟨#[]⟩, .string ⟨#[]⟩, .int .i64 0, .slice none 0 0, .int .i64 0, .int .i64 0, .string ⟨#[]⟩, .bool false, .slice none 0 0] 37)
  have kN := new_ok _ A n c b (Rd.mod0 h hm0) (by omega)
  obtain ⟨i, e1, l1, h1⟩ := tri_ (rdIs (0, b))
  obtain ⟨bal, e2, l2, h2⟩ := tri_ (qg 0 1000000 (e1, l1))
  obtain ⟨s3, e3, l3, h3⟩ := tri_ (qg 0 3 (e2, l2))
  obtain ⟨by_, e4, l4, h4⟩ := tri_ (qg 0 1000000 (e3, l3))
  clear h
  have hrr : ∀ p, rdR (0, b) = p → rdRec b = if p.1.2 ≠ 0 ∨ dn p.2.2 p.2.1 ≠ 0 ∨ rightR p.1.1 = false then (rc0, 3) else (p.1.1, 0) := fun p hp => by unfold rdRec; rw [hp]
  have hrt : rdR (0, b) = if s3 = 0 then ((⟨i, bal, s3, by_, en0⟩, 0), e4, l4) else bd rdEn (fun e => pu (⟨i, bal, s3, by_, e.1⟩, e.2)) (e4, l4) := by
    unfold rdR
    rw [bd_of h1, bd_of h2, bd_of h3, bd_of h4]
    split <;> rfl
  replace h1 := Lib.hid h1
  replace h2 := Lib.hid h2
  replace h3 := Lib.hid h3
  replace h4 := Lib.hid h4
  replace hb0 := Lib.hid hb0
  replace hm0 := Lib.hid hm0
  replace hrr := Lib.hid hrr
  replace hrt := Lib.hid hrt
  go_enter Tryz.func10, Tryz.ntmps10
  go_wp2_with fail
  refine kN.mono ?_
  rintro en w1 ⟨g, B, rfl, hR, hg, hB, hB', hm⟩
  dsimp only
  clear kN
  simp only [World.size_alloc] at hg hB
  have hbr := hb0.out.mod hm (fun h => h)
  have hM := (hm0.out.trans hm).any (only g)
  have hgw : w.heap.size ≤ g := by omega
  have hng : ¬ w.heap.size = g := by omega
  clear hm
  replace hbr := Lib.hid hbr
  replace hM := Lib.hid hM
  go_wp2_with fail
  refine (inst_r h1.out hR hB').mono ?_; rintro en w2 ⟨rfl, hR1, hm⟩; dsimp only at hR1 ⊢
  replace hbr := Lib.hid (hbr.out.mod hm (fun hh => hng hh)); replace hM := Lib.hid (hM.out.trans hm); have hsz := hm.size; clear hm hR
  go_wp2_with fail
  refine (lsmall_r h2.out hR1).mono ?_; rintro en w3 ⟨rfl, hR2, hm⟩; dsimp only at hR2 ⊢
  replace hbr := Lib.hid (hbr.out.mod hm (fun hh => hng hh)); replace hM := Lib.hid (hM.out.trans hm); have hsz2 := hm.size; clear hm hR1
  go_wp2_with fail
  refine (lsmall_r h3.out hR2).mono ?_; rintro en w4 ⟨rfl, hR3, hm⟩; dsimp only at hR3 ⊢
  replace hbr := Lib.hid (hbr.out.mod hm (fun hh => hng hh)); replace hM := Lib.hid (hM.out.trans hm); have hsz3 := hm.size; clear hm hR2
  go_wp2_with fail
  refine (lsmall_r h4.out hR3).mono ?_; rintro en w5 ⟨rfl, hR4, hm⟩; dsimp only at hR4 ⊢
  replace hbr := Lib.hid (hbr.out.mod hm (fun hh => hng hh)); replace hM := Lib.hid (hM.out.trans hm); have hsz4 := hm.size; clear hm hR3
  have hgl := hR4.lt
  have hrl := hbr.out.lt
  have hst : FillC w 37 #[.int .i64 0, .int .i64 0, .int .i64 0, .int .i64 0, .int .i64 0, .int .i64 0, .int .i64 0, .int .i64 0, .string ⟨#[]⟩, .string ⟨#[]⟩, .int .i64 0, .slice none 0 0, .int .i64 0, .int .i64 0, .string ⟨#[]⟩, .bool false, .slice none 0 0] g B w5.heap.size (w5.alloc (.cells #[.int .i64 i.r, .int .i64 i.n, .int .i64 bal, .int .i64 s3, .int .i64 by_, .int .i64 0, .int .i64 0, .int .i64 0, .string ⟨#[]⟩, .string ⟨#[]⟩, .int .i64 0, .slice none 0 0, .int .i64 0, .int .i64 0, .string ⟨#[]⟩, .bool false, .slice none 0 0] 37)) #[.int .i64 i.r, .int .i64 i.n, .int .i64 bal, .int .i64 s3, .int .i64 by_, .int .i64 0, .int .i64 0, .int .i64 0, .string ⟨#[]⟩, .string ⟨#[]⟩, .int .i64 0, .slice none 0 0, .int .i64 0, .int .i64 0, .string ⟨#[]⟩, .bool false, .slice none 0 0] e4 l4 :=
    ⟨hR4.mod0 ((Mod.refl none_ w5).alloc _), hbr.out.alloc _, Blk.new w5 _ _, hM.out.alloc _, by omega, by omega, by omega, by omega, by omega, by simp only [World.size_alloc]; omega⟩
  clear hR4 hsz hsz2 hsz3 hsz4 hgl hrl hB' hbr hM
  generalize hq : w5.heap.size = q at hst
  by_cases hs : s3 = 0
  · subst hs
    have hrd : Hid (rdRec b = if dn l4 e4 ≠ 0 ∨ rightR ⟨i, bal, 0, by_, en0⟩ = false then (rc0, 3) else (⟨i, bal, 0, by_, en0⟩, 0)) := Lib.hid (by rw [hrr.out _ hrt.out, if_pos rfl]; simp)
    have hE := Lib.hid (fun (w10 W' : World) (_ : Mod (only g) (w5.alloc (.cells #[.int .i64 i.r, .int .i64 i.n, .int .i64 bal, .int .i64 0, .int .i64 by_, .int .i64 0, .int .i64 0, .int .i64 0, .string ⟨#[]⟩, .string ⟨#[]⟩, .int .i64 0, .slice none 0 0, .int .i64 0, .int .i64 0, .string ⟨#[]⟩, .bool false, .slice none 0 0] 37)) w10) (_ : Mod none_ w10 W') => en0_mem W')
    have hbd : Hid ((0 : Nat) ≤ 140737488355328 ∧ (0 : Nat) ≤ 140737488355328 ∧ (Lit.int .i64 en0.o.k).wf = true ∧ ∀ l ∈ en0.o.legs, (txt l.n).size ≤ maxLen) := Lib.hid ⟨by decide, by decide, by decide, fun l hl => by cases hl⟩
    have hfL : Hid (∀ a, (none : Option Addr) = some a → w.heap.size < a.block) := Lib.hid (fun a ha => by cases ha)
    have hfD : Hid (∀ a, (none : Option Addr) = some a → w.heap.size < a.block) := Lib.hid (fun a ha => by cases ha)
    replace hst := Lib.hid hst
    go_wp2_with fail
    replace hq := Lib.hid hq
    refine (done_ok _ g B e4 l4 hst.out.rd).mono ?_; rintro en w10 ⟨rfl, hm⟩; dsimp only
    have hE1 := Lib.hid (fun W' (h : Mod none_ w10 W') => hE.out w10 W' hm h)
    replace hst := Lib.hid (hst.out.after hm); clear hm hE
    generalize hdn : dn l4 e4 = d at *
    replace hdn := Lib.hid hdn
    by_cases hd : d = 0
    · subst hd
      have kR : Hid (Calls Tryz.prog 23 #[.agg #[.int .i64 i.r, .int .i64 i.n, .int .i64 bal, .int .i64 0, .int .i64 by_, .int .i64 0, .int .i64 0, .int .i64 0, .string ⟨#[]⟩, .string ⟨#[]⟩, .int .i64 0, .slice none 0 0, .int .i64 0, .int .i64 0, .string ⟨#[]⟩, .bool false, .slice none 0 0]] w10 fun e' w' => e' = .returned (.bool (rightR ⟨i, bal, 0, by_, en0⟩)) ∧ Mod none_ w10 w') := Lib.hid (rightR_ok w10 ⟨i, bal, 0, by_, en0⟩ ⟨none, 0, 0⟩ ⟨none, 0, 0⟩ (hE1.out w10 (Mod.refl _ _)) hbd.out.1 hbd.out.2.1 hbd.out.2.2.1 hbd.out.2.2.2)
      go_wp2_with (refine wpList_step (fun K hK => ?_); rw [if_pos (by rfl)]; refine wp_load_row 37 (.tmp 5) rfl q rfl _ _ _ _ hst.out.var Tryz.underlying37 rfl record_size ?_; refine hK _ _ ?_)
      with_reducible refine kR.out.mono ?_
      rintro en w13 ⟨rfl, hm⟩
      dsimp only
      have hE2 := Lib.hid (fun W' (h : Mod none_ w13 W') => hE1.out W' (hm.trans h))
      replace hst := Lib.hid (hst.out.mod0' hm)
      clear hm hE1 kR
      cases hr : rightR ⟨i, bal, 0, by_, en0⟩ with
      | false =>
        have hf : Hid (rdRec b = (rc0, 3)) := Lib.hid (by rw [hrd.out, hr]; simp)
        clear hr
        go_wp2_with (refine wpList_store_blk rfl 37 (.tmp 2) (.tmp 42) rfl w.heap.size 0 _ rfl rfl hst.out.res (by simp) record_size (by rfl) #[.int .i64 0, .int .i64 0, .int .i64 0, .int .i64 0, .int .i64 0, .int .i64 0, .int .i64 0, .int .i64 0, .string ⟨#[]⟩, .string ⟨#[]⟩, .int .i64 0, .slice none 0 0, .int .i64 0, .int .i64 0, .string ⟨#[]⟩, .bool false, .slice none 0 0] rfl ?_; intro w14 hb14 hm14; replace hb14 := Lib.hid hb14; replace hm14 := Lib.hid hm14)
        refine ret_row_tmp rfl w.heap.size rfl hb14.out Tryz.underlying37 rfl record_size (.int .i64 3) rfl rfl ?_
        exact RcPost.zero hf.out rfl ((Mod.drop_new hst.out.mod hgw).in_new (Nat.le_refl _) hm14.out)
      | true =>
        have hf : Hid (rdRec b = (⟨i, bal, 0, by_, en0⟩, 0)) := Lib.hid (by rw [hrd.out, hr]; simp)
        clear hr
        go_wp2_with (first | (refine wpList_load_row rfl 37 (.tmp 5) rfl q rfl _ _ _ _ hst.out.var Tryz.underlying37 rfl record_size ?_) | (refine wpList_store_blk rfl 37 (.tmp 2) (.tmp 43) rfl w.heap.size 0 _ rfl rfl hst.out.res (by simp) record_size (by rfl) #[.int .i64 i.r, .int .i64 i.n, .int .i64 bal, .int .i64 0, .int .i64 by_, .int .i64 0, .int .i64 0, .int .i64 0, .string ⟨#[]⟩, .string ⟨#[]⟩, .int .i64 0, .slice none 0 0, .int .i64 0, .int .i64 0, .string ⟨#[]⟩, .bool false, .slice none 0 0] rfl ?_; intro w14 hb14 hm14; replace hb14 := Lib.hid hb14; replace hm14 := Lib.hid hm14))
        refine ret_row_tmp rfl w.heap.size rfl hb14.out Tryz.underlying37 rfl record_size (.int .i64 0) rfl rfl ?_
        have hEE := hE2.out _ (Mod.refl _ _)
        have hLf := hEE.od.rd
        have hDf := hEE.rd
        have hEf : EnM w14 en0 ⟨none, 0, 0⟩ ⟨none, 0, 0⟩ := ⟨⟨Rd.mod' hLf hm14.out (fun _ k hk hh => by have : k = w.heap.size := hh; obtain ⟨a, ha, hka⟩ := hk; have := hfL.out a ha; omega), hEE.od.cap⟩, Rd.mod' hDf hm14.out (fun _ k hk hh => by have : k = w.heap.size := hh; obtain ⟨a, ha, hka⟩ := hk; have := hfD.out a ha; omega), hEE.cap⟩
        exact ⟨⟨i, bal, 0, by_, en0⟩, 0, ⟨none, 0, 0⟩, ⟨none, 0, 0⟩, hf.out, rfl, hEf, (fun a ha => Nat.le_of_lt (hfL.out a ha)), (fun a ha => Nat.le_of_lt (hfD.out a ha)), (Mod.drop_new hst.out.mod hgw).in_new (Nat.le_refl _) hm14.out⟩
    · have hd2 : ((d : Int) != 0) = true := by simp; omega
      have hf : Hid (rdRec b = (rc0, 3)) := Lib.hid (by rw [hrd.out, if_pos (.inl hd)])
      go_wp2_with (refine wpList_store_blk rfl 37 (.tmp 2) (.tmp 42) rfl w.heap.size 0 _ rfl rfl hst.out.res (by simp) record_size (by rfl) #[.int .i64 0, .int .i64 0, .int .i64 0, .int .i64 0, .int .i64 0, .int .i64 0, .int .i64 0, .int .i64 0, .string ⟨#[]⟩, .string ⟨#[]⟩, .int .i64 0, .slice none 0 0, .int .i64 0, .int .i64 0, .string ⟨#[]⟩, .bool false, .slice none 0 0] rfl ?_; intro w14 hb14 hm14; replace hb14 := Lib.hid hb14; replace hm14 := Lib.hid hm14)
      refine ret_row_tmp rfl w.heap.size rfl hb14.out Tryz.underlying37 rfl record_size (.int .i64 3) rfl rfl ?_
      exact RcPost.zero hf.out rfl ((Mod.drop_new hst.out.mod hgw).in_new (Nat.le_refl _) hm14.out)
  · have hs2 : (s3 != 0) = true := by simpa using hs
    replace hst := Lib.hid hst
    go_wp2_with fail
    replace hq := Lib.hid hq
    refine (entry_ok _ g B e4 l4 hst.out.rd hst.out.bl).mono ?_
    rintro en w6 ⟨v, f, e, l, L, D, he, rfl, hEn, hfL0, hfD0, hR, hm⟩
    dsimp only
    obtain ⟨v1, v2⟩ := rdEn_in he
    obtain ⟨v3, v4, v5⟩ := od_facts v1
    have hbd : Hid (L.n ≤ 140737488355328 ∧ D.n ≤ 140737488355328 ∧ (Lit.int .i64 v.o.k).wf = true ∧ ∀ l ∈ v.o.legs, (txt l.n).size ≤ maxLen) := Lib.hid ⟨by have := hEn.od.rd.len; omega, by have := hEn.rd.len; omega, v4, v5⟩
    have hrd0 : rdRec b = if f ≠ 0 ∨ dn l e ≠ 0 ∨ rightR ⟨i, bal, s3, by_, v⟩ = false then (rc0, 3) else (⟨i, bal, s3, by_, v⟩, 0) :=
      hrr.out ((⟨i, bal, s3, by_, v⟩, f), e, l) (hrt.out.trans (by rw [if_neg hs, bd_of he]; rfl))
    have hnn := hst.out.new_ne
    have hfL : Hid (∀ a, L.a = some a → w.heap.size < a.block ∧ g < a.block ∧ q < a.block) := Lib.hid (fun a ha => by have := hfL0 a ha; omega)
    have hfD : Hid (∀ a, D.a = some a → w.heap.size < a.block ∧ g < a.block ∧ q < a.block) := Lib.hid (fun a ha => by have := hfD0 a ha; omega)
    replace hst := Lib.hid (hst.out.call hm hR)
    clear hm hR hfL0 hfD0 hnn v1 v2 v3 v4 v5 he hs2
    replace hrd0 := Lib.hid hrd0
    replace hEn := Lib.hid hEn
    by_cases hf0 : f = 0
    · subst hf0
      go_wp2_with (refine wpList_store_blk rfl 33 (.tmp 29) (.tmp 26) rfl q 5 _ rfl rfl hst.out.var (by simp) entry_size (by rfl) #[.int .i64 i.r, .int .i64 i.n, .int .i64 bal, .int .i64 s3, .int .i64 by_, .int .i64 v.o.c, .int .i64 v.o.s, .int .i64 v.o.k, .string (txt v.o.acct), .string (txt v.o.peer), .int .i64 v.o.sum, .slice L.a L.n L.c, .int .i64 v.o.per, .int .i64 v.o.hold, .string (txt v.o.note), .bool v.none, .slice D.a D.n D.c] rfl ?_; intro w7 hb7 hm7; replace hb7 := Lib.hid hb7; replace hm7 := Lib.hid hm7)
      replace hst := Lib.hid (hst.out.turn hm7.out hb7.out)
      have hE := Lib.hid (fun (w10 W' : World) (h1 : Mod (only g) w7 w10) (h2 : Mod none_ w10 W') => EnM.safe hEn.out (P := fun k => k = q ∨ k = g) ((hm7.out.mono (G := fun k => k = q ∨ k = g) (fun k hk => .inl hk)).trans ((h1.mono (G := fun k => k = q ∨ k = g) (fun k hk => .inr hk)).trans (h2.any _))) (fun a ha hh => by have := hfL.out a ha; omega) (fun a ha hh => by have := hfD.out a ha; omega))
      clear hb7 hm7 hEn
      have hrd : Hid (rdRec b = if dn l e ≠ 0 ∨ rightR ⟨i, bal, s3, by_, v⟩ = false then (rc0, 3) else (⟨i, bal, s3, by_, v⟩, 0)) := Lib.hid (by rw [hrd0.out]; simp)
      refine (done_ok _ g B e l hst.out.rd).mono ?_; rintro en w10 ⟨rfl, hm⟩; dsimp only
      have hE1 := Lib.hid (fun W' (h : Mod none_ w10 W') => hE.out w10 W' hm h)
      replace hst := Lib.hid (hst.out.after hm); clear hm hE
      generalize hdn : dn l e = d at *
      replace hdn := Lib.hid hdn
      by_cases hd : d = 0
      · subst hd
        have kR : Hid (Calls Tryz.prog 23 #[.agg #[.int .i64 i.r, .int .i64 i.n, .int .i64 bal, .int .i64 s3, .int .i64 by_, .int .i64 v.o.c, .int .i64 v.o.s, .int .i64 v.o.k, .string (txt v.o.acct), .string (txt v.o.peer), .int .i64 v.o.sum, .slice L.a L.n L.c, .int .i64 v.o.per, .int .i64 v.o.hold, .string (txt v.o.note), .bool v.none, .slice D.a D.n D.c]] w10 fun e' w' => e' = .returned (.bool (rightR ⟨i, bal, s3, by_, v⟩)) ∧ Mod none_ w10 w') := Lib.hid (rightR_ok w10 ⟨i, bal, s3, by_, v⟩ L D (hE1.out w10 (Mod.refl _ _)) hbd.out.1 hbd.out.2.1 hbd.out.2.2.1 hbd.out.2.2.2)
        go_wp2_with (refine wpList_step (fun K hK => ?_); rw [if_pos (by rfl)]; refine wp_load_row 37 (.tmp 5) rfl q rfl _ _ _ _ hst.out.var Tryz.underlying37 rfl record_size ?_; refine hK _ _ ?_)
        with_reducible refine kR.out.mono ?_
        rintro en w13 ⟨rfl, hm⟩
        dsimp only
        have hE2 := Lib.hid (fun W' (h : Mod none_ w13 W') => hE1.out W' (hm.trans h))
        replace hst := Lib.hid (hst.out.mod0' hm)
        clear hm hE1 kR
        cases hr : rightR ⟨i, bal, s3, by_, v⟩ with
        | false =>
          have hf : Hid (rdRec b = (rc0, 3)) := Lib.hid (by rw [hrd.out, hr]; simp)
          clear hr
          go_wp2_with (refine wpList_store_blk rfl 37 (.tmp 2) (.tmp 42) rfl w.heap.size 0 _ rfl rfl hst.out.res (by simp) record_size (by rfl) #[.int .i64 0, .int .i64 0, .int .i64 0, .int .i64 0, .int .i64 0, .int .i64 0, .int .i64 0, .int .i64 0, .string ⟨#[]⟩, .string ⟨#[]⟩, .int .i64 0, .slice none 0 0, .int .i64 0, .int .i64 0, .string ⟨#[]⟩, .bool false, .slice none 0 0] rfl ?_; intro w14 hb14 hm14; replace hb14 := Lib.hid hb14; replace hm14 := Lib.hid hm14)
          refine ret_row_tmp rfl w.heap.size rfl hb14.out Tryz.underlying37 rfl record_size (.int .i64 3) rfl rfl ?_
          exact RcPost.zero hf.out rfl ((Mod.drop_new hst.out.mod hgw).in_new (Nat.le_refl _) hm14.out)
        | true =>
          have hf : Hid (rdRec b = (⟨i, bal, s3, by_, v⟩, 0)) := Lib.hid (by rw [hrd.out, hr]; simp)
          clear hr
          go_wp2_with (first | (refine wpList_load_row rfl 37 (.tmp 5) rfl q rfl _ _ _ _ hst.out.var Tryz.underlying37 rfl record_size ?_) | (refine wpList_store_blk rfl 37 (.tmp 2) (.tmp 43) rfl w.heap.size 0 _ rfl rfl hst.out.res (by simp) record_size (by rfl) #[.int .i64 i.r, .int .i64 i.n, .int .i64 bal, .int .i64 s3, .int .i64 by_, .int .i64 v.o.c, .int .i64 v.o.s, .int .i64 v.o.k, .string (txt v.o.acct), .string (txt v.o.peer), .int .i64 v.o.sum, .slice L.a L.n L.c, .int .i64 v.o.per, .int .i64 v.o.hold, .string (txt v.o.note), .bool v.none, .slice D.a D.n D.c] rfl ?_; intro w14 hb14 hm14; replace hb14 := Lib.hid hb14; replace hm14 := Lib.hid hm14))
          refine ret_row_tmp rfl w.heap.size rfl hb14.out Tryz.underlying37 rfl record_size (.int .i64 0) rfl rfl ?_
          have hEE := hE2.out _ (Mod.refl _ _)
          have hLf := hEE.od.rd
          have hDf := hEE.rd
          have hEf : EnM w14 v L D := ⟨⟨Rd.mod' hLf hm14.out (fun _ k hk hh => by have : k = w.heap.size := hh; obtain ⟨a, ha, hka⟩ := hk; have := (hfL.out a ha).1; omega), hEE.od.cap⟩, Rd.mod' hDf hm14.out (fun _ k hk hh => by have : k = w.heap.size := hh; obtain ⟨a, ha, hka⟩ := hk; have := (hfD.out a ha).1; omega), hEE.cap⟩
          exact ⟨⟨i, bal, s3, by_, v⟩, 0, L, D, hf.out, rfl, hEf, (fun a ha => Nat.le_of_lt (hfL.out a ha).1), (fun a ha => Nat.le_of_lt (hfD.out a ha).1), (Mod.drop_new hst.out.mod hgw).in_new (Nat.le_refl _) hm14.out⟩
      · have hd2 : ((d : Int) != 0) = true := by simp; omega
        have hf : Hid (rdRec b = (rc0, 3)) := Lib.hid (by rw [hrd.out, if_pos (.inl hd)])
        go_wp2_with (refine wpList_store_blk rfl 37 (.tmp 2) (.tmp 42) rfl w.heap.size 0 _ rfl rfl hst.out.res (by simp) record_size (by rfl) #[.int .i64 0, .int .i64 0, .int .i64 0, .int .i64 0, .int .i64 0, .int .i64 0, .int .i64 0, .int .i64 0, .string ⟨#[]⟩, .string ⟨#[]⟩, .int .i64 0, .slice none 0 0, .int .i64 0, .int .i64 0, .string ⟨#[]⟩, .bool false, .slice none 0 0] rfl ?_; intro w14 hb14 hm14; replace hb14 := Lib.hid hb14; replace hm14 := Lib.hid hm14)
        refine ret_row_tmp rfl w.heap.size rfl hb14.out Tryz.underlying37 rfl record_size (.int .i64 3) rfl rfl ?_
        exact RcPost.zero hf.out rfl ((Mod.drop_new hst.out.mod hgw).in_new (Nat.le_refl _) hm14.out)
    · have hf2 : ((f : Int) != 0) = true := by simp; omega
      have hf : Hid (rdRec b = (rc0, 3)) := Lib.hid (by rw [hrd0.out, if_pos (.inl hf0)])
      go_wp2_with (first | (refine wpList_store_blk rfl 33 (.tmp 29) (.tmp 26) rfl q 5 _ rfl rfl hst.out.var (by simp) entry_size (by rfl) #[.int .i64 i.r, .int .i64 i.n, .int .i64 bal, .int .i64 s3, .int .i64 by_, .int .i64 v.o.c, .int .i64 v.o.s, .int .i64 v.o.k, .string (txt v.o.acct), .string (txt v.o.peer), .int .i64 v.o.sum, .slice L.a L.n L.c, .int .i64 v.o.per, .int .i64 v.o.hold, .string (txt v.o.note), .bool v.none, .slice D.a D.n D.c] rfl ?_; intro w7 hb7 hm7; replace hst := Lib.hid (hst.out.turn hm7 hb7); clear hb7 hm7) | (refine wpList_store_blk rfl 37 (.tmp 2) (.tmp 42) rfl w.heap.size 0 _ rfl rfl hst.out.res (by simp) record_size (by rfl) #[.int .i64 0, .int .i64 0, .int .i64 0, .int .i64 0, .int .i64 0, .int .i64 0, .int .i64 0, .int .i64 0, .string ⟨#[]⟩, .string ⟨#[]⟩, .int .i64 0, .slice none 0 0, .int .i64 0, .int .i64 0, .string ⟨#[]⟩, .bool false, .slice none 0 0] rfl ?_; intro w14 hb14 hm14; replace hb14 := Lib.hid hb14; replace hm14 := Lib.hid hm14))
      refine ret_row_tmp rfl w.heap.size rfl hb14.out Tryz.underlying37 rfl record_size (.int .i64 3) rfl rfl ?_
      exact RcPost.zero hf.out rfl ((Mod.drop_new hst.out.mod hgw).in_new (Nat.le_refl _) hm14.out)
end Go.Proofs.YtdnbclhidpkpgaaGreat
/-
  The law's few: the first 20 records, with few legs, and Deps. No condition.
-/
namespace Go.Proofs.YtdnbclhidpkpgaaGreat
set_option linter.unusedVariables false
set_option linter.unusedSimpArgs false
open Go.RowKit
def cutR (x : Rs) : Rs := ⟨⟨x.r.i, x.r.bal, x.r.st, x.r.by_, ⟨⟨x.r.e.o.c, x.r.e.o.s, x.r.e.o.k, x.r.e.o.acct, x.r.e.o.peer, x.r.e.o.sum, x.r.e.o.legs.take 8, x.r.e.o.per, x.r.e.o.hold, x.r.e.o.note⟩, x.r.e.none, x.r.e.deps.take 110⟩⟩, ⟨x.L.a, min x.L.n 8, x.L.c⟩, ⟨x.D.a, min x.D.n 110, x.D.c⟩⟩
def fewL (xs : List Rs) (n : Nat) : List Rs := (xs.take n).map cutR
theorem lgs_take (ls : List Lg) (k : Nat) : (lgs ls).take (k * 2) = lgs (ls.take k) := by
  induction ls generalizing k with
  | nil => simp [lgs]
  | cons l ls ih =>
    cases k with
    | zero => simp [lgs]
    | succ k =>
      show (_ :: _ :: lgs ls).take ((k + 1) * 2) = _ :: _ :: lgs (ls.take k)
      rw [show (k + 1) * 2 = k * 2 + 1 + 1 by omega, List.take_succ_cons, List.take_succ_cons, ih]
theorem iss_take (ls : List Is) (k : Nat) : (iss ls).take (k * 2) = iss (ls.take k) := by
  induction ls generalizing k with
  | nil => simp [iss]
  | cons l ls ih =>
    cases k with
    | zero => simp [iss]
    | succ k =>
      show (_ :: _ :: iss ls).take ((k + 1) * 2) = _ :: _ :: iss (ls.take k)
      rw [show (k + 1) * 2 = k * 2 + 1 + 1 by omega, List.take_succ_cons, List.take_succ_cons, ih]
theorem cut_mem {w : World} {x : Rs} (h : EnM w x.r.e x.L x.D) : EnM w (cutR x).r.e (cutR x).L (cutR x).D := by
  have h1 := Rd.take_ h.od.rd (k := min x.L.n 8) (Nat.min_le_left _ _)
  have h2 := Rd.take_ h.rd (k := min x.D.n 110) (Nat.min_le_left _ _)
  rw [lgs_take] at h1
  rw [iss_take] at h2
  have e1 : x.r.e.o.legs.take (min x.L.n 8) = x.r.e.o.legs.take 8 := by have := h.od.rd.len; rw [← this, List.take_eq_take_iff]; omega
  have e2 : x.r.e.deps.take (min x.D.n 110) = x.r.e.deps.take 110 := by have := h.rd.len; rw [← this, List.take_eq_take_iff]; omega
  rw [e1] at h1
  rw [e2] at h2
  exact ⟨⟨h1, Nat.le_trans (Nat.min_le_left _ _) h.od.cap⟩, h2, Nat.le_trans (Nat.min_le_left _ _) h.cap⟩
theorem cut_ok {x : Rs} (h : RsOk x) : RsOk (cutR x) := by
  obtain ⟨h1, h2, h3, h4⟩ := h
  refine ⟨?_, ?_, h3, fun l hl => h4 l (List.mem_of_mem_take hl)⟩
  · show min x.L.n 8 ≤ _; omega
  · show min x.D.n 110 ≤ _; omega
theorem few_succ {xs : List Rs} {j : Nat} {x : Rs} (h : xs[j]? = some x) : fewL xs (j + 1) = fewL xs j ++ [cutR x] := by
  unfold fewL
  rw [List.take_add_one, h]
  simp
theorem few_len {xs : List Rs} {j : Nat} (h : j ≤ xs.length) : (fewL xs j).length = j := by unfold fewL; simp; omega
set_option maxRecDepth 100000 in
set_option maxHeartbeats 8000000 in
theorem few_ok (w : World) (A : Option Addr) (N c : Nat) (xs : List Rs) (h : RdR w A N xs) (hE : RsM w xs) (hk : ∀ x ∈ xs, RsOk x) (hN : N ≤ 140737488355328) :
    Calls Tryz.prog 15 #[.slice A N c] w fun e w' =>
      ∃ A' m c', e = .returned (.slice A' m c') ∧ OwR w' A' m c' (fewL xs 20) ∧ Fresh w A' ∧ Mod none_ w w' := by
  have hl := Lib.hid h.len
  replace h := Lib.hid h
  replace hE := Lib.hid hE
  replace hk := Lib.hid hk
  go_enter Tryz.func15, Tryz.ntmps15
  go_wp2_with fail
  go_loopw [3, 4] (fun v y wr => ∃ j : Nat, y = .int .i64 j ∧ j ≤ N ∧ j ≤ 20 ∧ ∃ B d, v = .slice B j d ∧ OwR wr B j d (fewL xs j) ∧ Fresh w B ∧ Mod none_ w wr) (fun _ y _ => 20 - (intOf y).toNat)
  case atStart => exact ⟨0, rfl, by omega, by omega, none, 0, rfl, Ow.nil _ _ _, (fun a ha => by cases ha), Mod.refl _ _⟩
  case round =>
    obtain ⟨j, rfl, hjN, hjn, B, d, rfl, ho, hf, hm⟩ := hrel
    by_cases hlt : j < N
    · by_cases hlt2 : j < 20
      · obtain ⟨b, o, x, hA, hxm, hx, hrg⟩ := rdr_get (w := wr) (Rd.mod0 h.out hm) hlt
        subst hA
        unfold rsC at hrg
        have hb0 := Lib.hid (Blk.new wr 37 #[.int .i64 0, .int .i64 0, .int .i64 0, .int .i64 0, .int .i64 0, .int .i64 0, .int .i64 0, .int .i64 0, .string ⟨#[]⟩, .string ⟨#[]⟩, .int .i64 0, .slice none 0 0, .int .i64 0, .int .i64 0, .string ⟨#[]⟩, .bool false, .slice none 0 0])
        have hEx := hE.out x hxm
        obtain ⟨q1, q2, _, _⟩ := hk.out x hxm
        have q3 := hEx.od.cap
        have q4 := hEx.cap
        have q5 : min (x.L.n : Int) 8 = ((min x.L.n 8 : Nat) : Int) := by omega
        have q6 : min (x.D.n : Int) 110 = ((min x.D.n 110 : Nat) : Int) := by omega
        have q7 : ((min x.L.n 8 : Nat) : Int) ≤ (x.L.c : Int) := by omega
        have q8 : ((min x.D.n 110 : Nat) : Int) ≤ (x.D.c : Int) := by omega
        have q9 : min x.L.n 8 ≤ x.L.c := by omega
        have q10 : min x.D.n 110 ≤ x.D.c := by omega
        clear hEx
        replace ho := Lib.hid ho
        replace hf := Lib.hid hf
        replace hm := Lib.hid hm
        replace hxm := Lib.hid hxm
        replace hx := Lib.hid hx
        replace hrg := Lib.hid hrg
        go_upto_region 6 with (first
          | (refine wpList_load_mid rfl 37 (.tmp 18) rfl b (o + j * 17) rfl _ _ hrg.out Tryz.underlying37 rfl rc_size ?_)
          | (refine wpList_store_blk rfl 37 (.tmp 5) (.tmp 19) rfl wr.heap.size 0 _ rfl rfl hb0.out (by simp) rc_size (by rfl) #[.int .i64 x.r.i.r, .int .i64 x.r.i.n, .int .i64 x.r.bal, .int .i64 x.r.st, .int .i64 x.r.by_, .int .i64 x.r.e.o.c, .int .i64 x.r.e.o.s, .int .i64 x.r.e.o.k, .string (txt x.r.e.o.acct), .string (txt x.r.e.o.peer), .int .i64 x.r.e.o.sum, .slice x.L.a x.L.n x.L.c, .int .i64 x.r.e.o.per, .int .i64 x.r.e.o.hold, .string (txt x.r.e.o.note), .bool x.r.e.none, .slice x.D.a x.D.n x.D.c] rfl ?_; intro w2 hb2 hm2))
        have hm2' := ((Mod.refl none_ wr).alloc (.cells #[.int .i64 0, .int .i64 0, .int .i64 0, .int .i64 0, .int .i64 0, .int .i64 0, .int .i64 0, .int .i64 0, .string ⟨#[]⟩, .string ⟨#[]⟩, .int .i64 0, .slice none 0 0, .int .i64 0, .int .i64 0, .string ⟨#[]⟩, .bool false, .slice none 0 0] 37)).in_new (Nat.le_refl _) hm2
        have hM2 := Lib.hid (hm.out.trans hm2')
        have ho2 := Lib.hid (ho.out.mod0 hm2')
        have hvw := Lib.hid (show w.heap.size ≤ wr.heap.size from hm.out.size)
        have hBv := Lib.hid (show ∀ k, fp B k → k < wr.heap.size from ho.out.lt)
        generalize hv : wr.heap.size = v at *
        clear hm2 hm2'
        replace hv := Lib.hid hv
        have i0 : w2.cell? ⟨v, 11, none⟩ = some (.slice x.L.a x.L.n x.L.c) := hb2.cell_ rfl
        have i1 : w2.cell? ⟨v, 16, none⟩ = some (.slice x.D.a x.D.n x.D.c) := hb2.cell_ rfl
        have f0 : w2.frozen? ⟨v, 11, none⟩ = false := hb2.frozen 11
        have f1 : w2.frozen? ⟨v, 16, none⟩ = false := hb2.frozen 16
        have hb3 : Hid (Blk ((w2.setCell ⟨v, 11, none⟩ (.slice x.L.a (min x.L.n 8) x.L.c)).setCell ⟨v, 16, none⟩ (.slice x.D.a (min x.D.n 110) x.D.c)) v 37 #[.int .i64 x.r.i.r, .int .i64 x.r.i.n, .int .i64 x.r.bal, .int .i64 x.r.st, .int .i64 x.r.by_, .int .i64 x.r.e.o.c, .int .i64 x.r.e.o.s, .int .i64 x.r.e.o.k, .string (txt x.r.e.o.acct), .string (txt x.r.e.o.peer), .int .i64 x.r.e.o.sum, .slice x.L.a (min x.L.n 8) x.L.c, .int .i64 x.r.e.o.per, .int .i64 x.r.e.o.hold, .string (txt x.r.e.o.note), .bool x.r.e.none, .slice x.D.a (min x.D.n 110) x.D.c]) := Lib.hid ((hb2.set_ 11 _).set_ 16 _)
        have hM3 := Lib.hid (((Mod.refl (only v) w2).set_only 11 (.slice x.L.a (min x.L.n 8) x.L.c)).set_only 16 (.slice x.D.a (min x.D.n 110) x.D.c))
        replace hb2 := Lib.hid hb2
        go_upto_region 8 with fail
        generalize hW : ((w2.setCell ⟨v, 11, none⟩ (.slice x.L.a (min x.L.n 8) x.L.c)).setCell ⟨v, 16, none⟩ (.slice x.D.a (min x.D.n 110) x.D.c)) = W at *
        replace hW := Lib.hid hW
        have hM4 := Lib.hid ((hM2.out.in_new hvw.out hM3.out).alloc (.cells #[.int .i64 x.r.i.r, .int .i64 x.r.i.n, .int .i64 x.r.bal, .int .i64 x.r.st, .int .i64 x.r.by_, .int .i64 x.r.e.o.c, .int .i64 x.r.e.o.s, .int .i64 x.r.e.o.k, .string (txt x.r.e.o.acct), .string (txt x.r.e.o.peer), .int .i64 x.r.e.o.sum, .slice x.L.a (min x.L.n 8) x.L.c, .int .i64 x.r.e.o.per, .int .i64 x.r.e.o.hold, .string (txt x.r.e.o.note), .bool x.r.e.none, .slice x.D.a (min x.D.n 110) x.D.c] 37))
        have ho4 := Lib.hid ((ho2.out.mod hM3.out (fun k hk hh => by have : k = v := hh; have := hBv.out k hk; omega)).mod0 ((Mod.refl none_ W).alloc (.cells #[.int .i64 x.r.i.r, .int .i64 x.r.i.n, .int .i64 x.r.bal, .int .i64 x.r.st, .int .i64 x.r.by_, .int .i64 x.r.e.o.c, .int .i64 x.r.e.o.s, .int .i64 x.r.e.o.k, .string (txt x.r.e.o.acct), .string (txt x.r.e.o.peer), .int .i64 x.r.e.o.sum, .slice x.L.a (min x.L.n 8) x.L.c, .int .i64 x.r.e.o.per, .int .i64 x.r.e.o.hold, .string (txt x.r.e.o.note), .bool x.r.e.none, .slice x.D.a (min x.D.n 110) x.D.c] 37)))
        have hone := Lib.hid (show RdR (W.alloc (.cells #[.int .i64 x.r.i.r, .int .i64 x.r.i.n, .int .i64 x.r.bal, .int .i64 x.r.st, .int .i64 x.r.by_, .int .i64 x.r.e.o.c, .int .i64 x.r.e.o.s, .int .i64 x.r.e.o.k, .string (txt x.r.e.o.acct), .string (txt x.r.e.o.peer), .int .i64 x.r.e.o.sum, .slice x.L.a (min x.L.n 8) x.L.c, .int .i64 x.r.e.o.per, .int .i64 x.r.e.o.hold, .string (txt x.r.e.o.note), .bool x.r.e.none, .slice x.D.a (min x.D.n 110) x.D.c] 37)) (some ⟨W.heap.size, 0, none⟩) 1 [cutR x] from rdR_one W (cutR x))
        have hsn := Lib.hid (few_succ hx.out)
        clear i0 i1 f0 f1 hM2 ho2 hM3 hBv
        go_wp2_with (first
          | (refine wpList_load_row rfl 37 (.tmp 5) rfl v rfl _ _ _ _ hb3.out Tryz.underlying37 rfl rc_size ?_)
          | (at_builtin; go_loud (refine appR rfl (.tmp 51) (.tmp 53) rfl rfl ho4.out rfl hone.out (by omega) ?_; intro A5 c5 w5 ho5 hm5 hA5; replace ho5 := Lib.hid ho5; replace hm5 := Lib.hid hm5; replace hA5 := Lib.hid hA5)))
        go_roundw
        case rel => exact ⟨j + 1, by go_num, by omega, by omega, A5, c5, rfl, by rw [hsn.out]; exact ho5.out, Fresh.app hf.out hM4.out.size hA5.out, hM4.out.app hf.out hm5.out⟩
        case measure => simp [intOf]; omega
      · obtain rfl : j = 20 := by omega
        replace ho := Lib.hid ho
        replace hf := Lib.hid hf
        replace hm := Lib.hid hm
        go_wp2_with fail
        go_ret
        exact ⟨B, 20, d, rfl, ho.out, hf.out, hm.out⟩
    · obtain rfl : j = N := by omega
      have e : fewL xs 20 = fewL xs j := by
        unfold fewL
        rw [List.take_of_length_le (l := xs) (i := 20) (by rw [hl.out]; exact hjn), List.take_of_length_le (l := xs) (i := j) (by rw [hl.out]; exact Nat.le_refl _)]
      rw [← e] at ho
      clear e
      replace ho := Lib.hid ho
      replace hf := Lib.hid hf
      replace hm := Lib.hid hm
      go_wp2_with fail
      go_ret
      exact ⟨B, j, d, rfl, ho.out, hf.out, hm.out⟩
end Go.Proofs.YtdnbclhidpkpgaaGreat
/-
  The contract of slices.Clone at bytes. No condition.
-/
namespace Go.Proofs.YtdnbclhidpkpgaaGreat
set_option linter.unusedVariables false
set_option linter.unusedSimpArgs false
open Go.RowKit
theorem u8info' : (Tryz.prog.info? 5).map (fun i => (i.zero, i.size, i.bytes)) = some (some (.int .u8 0), 1, 1) := by kernel_rfl
theorem clone_b (w : World) (l : List UInt8) (B : Option Addr) (n d : Nat) (h : RdB w B n l) (hn : n ≤ 140737488351232) : Calls Tryz.prog 50 #[.slice B n d] w fun e w' =>
    ∃ A' c', e = .returned (.slice A' n c') ∧ OwB w' 5 A' n c' l ∧ Fresh w A' ∧ Mod none_ w w' := by
  obtain ⟨i0, hi, hz0, hz1, hz2⟩ := info_parts u8info'
  have hq := fun (w : World) (a : Option Addr) (n c : Nat) => Lib.run_eql_slice_nil (P := Tryz.prog) w 22 _ a n c 0 0 Tryz.underlying22
  rcases B with _ | a
  · have hl : l = [] := by
      rcases Nat.eq_zero_or_pos n with h0 | h0
      · exact List.eq_nil_of_length_eq_zero (by rw [h.len, h0])
      · obtain ⟨ad, h, _⟩ := h.2 h0; cases h
    have hn0 : n = 0 := by rw [← h.len, hl]; rfl
    subst hl hn0
    clear h hn
    go_enter Tryz.func50, Tryz.ntmps50
    go_wp2
    go_ret
    exact ⟨none, 0, rfl, Ow.nil _ _ _, (fun _ h => by cases h), Mod.refl _ _⟩
  · go_enter Tryz.func50, Tryz.ntmps50
    go_wp2_with (at_builtin; refine wpList_append_ow rfl (.tmp 5) (.tmp 6) 22 rfl 5 i0 _ 1 1 Tryz.underlying22 hi hz0 hz1 hz2 rfl (by omega) (some ⟨w.heap.size, 0, none⟩) 0 0 [] rfl ?_ (some a) n d (bvs l) rfl ?_ (bvs_one l) (by omega) (by omega) ?_)
    · exact Ow.new w _ 1 0 #[] (Nat.zero_le _) rfl
    · exact Rd.alloc h _
    · intro A' c' w1 hown hmod hA'
      go_wp2
      go_ret
      refine ⟨A', c', rfl, hown, ?_, ((Mod.refl none_ w).alloc (.cells #[] 5)).then hmod ?_⟩
      · rintro b hb
        rcases hA' with rfl | rfl <;> cases hb <;> simp
      · rintro k hk ⟨b, hb, rfl⟩
        cases hb
        simp at hk
end Go.Proofs.YtdnbclhidpkpgaaGreat
/-
  The contract of frame.Scan. No condition.
-/
namespace Go.Proofs.YtdnbclhidpkpgaaGreat
set_option linter.unusedVariables false
set_option linter.unusedSimpArgs false
open Go.RowKit

theorem or_i64 (a b : Nat) (ha : a < 256) (hb : b < 256) : bits .or .i64 (a : Int) ((b : Int) * 256) = ((a + 256 * b : Nat) : Int) := by
  have := bo_i64 a (b * 256) (by omega) (by omega)
  rw [Nat.or_comm, show b * 256 = b * 2 ^ 8 from rfl, or_add b a 8 (by omega)] at this
  rw [Int.natCast_mul] at this
  rw [show ((b : Int) * 256) = (b : Int) * ((2 ^ 8 : Nat) : Int) from rfl, this]
  omega
theorem or_u32 (a b k : Nat) (hk : k < 32) (ha : a < 2 ^ k) (hb : b * 2 ^ k < 4294967296) : bits .or .u32 (a : Int) ((b : Int) * ((2 ^ k : Nat) : Int)) = ((a + b * 2 ^ k : Nat) : Int) := by
  have h2 : (2 : Nat) ^ k ≤ 2 ^ 31 := Nat.pow_le_pow_right (by omega) (by omega)
  have := bo32 a (b * 2 ^ k) (by omega) hb
  rw [Nat.or_comm, or_add b a k ha, Int.natCast_mul] at this
  rw [this]
  omega
theorem ret3 {a a' : Value} {x x' : Int} {y y' : Int} (h1 : a = a') (h2 : x = x') (h3 : y = y') : Ending.returned (.tuple #[a, .int .i64 x, .int .i64 y]) = .returned (.tuple #[a', .int .i64 x', .int .i64 y']) := by rw [h1, h2, h3]

def ScanRel (w : World) (b : List UInt8) (k : Nat) (v : Value) (wr : World) : Prop :=
  ∃ LA n c ss L, v = .slice LA n c ∧ Lst wr LA n c ss L ∧ (∀ i, fp LA i → w.heap.size ≤ i) ∧ ScanAt b k L ∧ Mod none_ w wr ∧ n ≤ k
/-- What Scan hands back. -/
def ScanPost (w : World) (b : List UInt8) (e : Ending) (w' : World) : Prop :=
  ∃ LA n c ss, e = .returned (.tuple #[.slice LA n c, .int .i64 ((scan b).2.1 : Nat), .int .i64 ((scan b).2.2 : Nat)]) ∧ Lst w' LA n c ss (scan b).1 ∧ (∀ i, fp LA i → w.heap.size ≤ i) ∧ Mod none_ w w'

theorem RdB.drewN_ {w : World} {A : Option Addr} {n : Nat} {l : List UInt8} (h : RdB w A n l) (k : Nat) : RdB (w.drewN k) A n l := h
theorem scan_end {w w' : World} {b : List UInt8} {LA : Option Addr} {m lc k ee : Nat} {ss : List SV} {L : List (List UInt8)} {x : Int} (hst : scan b = (L, k, ee)) (hL : Lst w' LA m lc ss L) (hLA : ∀ i, fp LA i → w.heap.size ≤ i) (hm : Mod none_ w w') (he : x = (ee : Int)) :
    ScanPost w b (.returned (.tuple #[.slice LA m lc, .int .i64 (k : Int), .int .i64 x])) w' :=
  ⟨LA, m, lc, ss, by rw [hst, he], by rw [hst]; exact hL, hLA, hm⟩
theorem rdb_sub {w : World} {g O q nm : Nat} {r : List UInt8} (hget : ∀ i, i < q → w.cell? ⟨g, O + i, none⟩ = some (.int .u8 ((r.getD i 0).toNat : Int))) (hr : r.length = q) (h : 6 + nm ≤ q) : RdB w (some ⟨g, O + 6, none⟩) nm ((r.drop 6).take nm) := by
  have hl : ((r.drop 6).take nm).length = nm := by rw [List.length_take, List.length_drop]; omega
  refine ⟨by rw [bvs_length, hl]; omega, fun _ => ⟨_, rfl, fun j u hu => ?_⟩⟩
  have hj : j < nm := by
    rcases Nat.lt_or_ge j nm with h1 | h1
    · exact h1
    · rw [List.getElem?_eq_none (by rw [bvs_length, hl]; exact h1)] at hu; cases hu
  rw [bvs_get (by rw [hl]; exact hj)] at hu
  have e : (⟨g, O + 6, none⟩ : Addr).add j = ⟨g, O + (6 + j), none⟩ := by unfold Addr.add; split <;> simp_all [Nat.add_assoc]
  rw [e, hget (6 + j) (by omega), ← hu]
  have : r.getD (6 + j) 0 = ((r.drop 6).take nm)[j]'(by rw [hl]; exact hj) := by
    simp [List.getD, List.getElem?_eq_getElem (show 6 + j < r.length by omega)]
  rw [this]

set_option maxRecDepth 100000 in
set_option maxHeartbeats 2000000 in
theorem scan_ok (w : World) (A : Option Addr) (n c : Nat) (b : List UInt8) (h : RdB w A n b) (hn : n ≤ c) (hc : c ≤ 9223372036854775807) (hs : n ≤ 1000000) : Calls Tryz.prog 42 #[.slice A n c] w fun e w' => ScanPost w b e w' := by
  have hl := Lib.hid h.len
  have H := Lib.hid h
  obtain ⟨i0, hi, hz0, hz1, hz2⟩ := info_parts slinfo
  clear h
  go_enter Tryz.func42, Tryz.ntmps42
  go_wp2_with fail
  go_step3
  go_wp2_with fail
  go_step3
  go_wp2_with fail
  go_loopw [5, 6, 7] (fun v i e wr => ∃ k : Nat, i = .int .i64 k ∧ e = .int .i64 0 ∧ ScanRel w b k v wr ∧ k ≤ n) (fun _ i _ _ => n - (intOf i).toNat)
  case atStart => exact ⟨0, rfl, rfl, ⟨none, 0, 0, [], [], rfl, Lst.nil w, (fun k hk => by obtain ⟨a, ha, _⟩ := hk; cases ha), ScanAt.zero b, Mod.refl _ w, by omega⟩, by omega⟩
  case round =>
    obtain ⟨k, rfl, rfl, ⟨LA, m, lc, ss, L, rfl, hL, hLA, hsc, hm, hmk⟩, hk⟩ := hrel
    replace hL := Lib.hid hL
    replace hLA := Lib.hid hLA
    replace hsc := Lib.hid hsc
    by_cases hlt : k < n
    · obtain ⟨g, o, rfl, hcell⟩ := (H.out.mod0 hm).form (by omega) (by omega)
      replace hm := Lib.hid hm
      have hlb : b.length = n := hl.out
      obtain ⟨q, rfl⟩ : ∃ q, n = k + q := ⟨n - k, by omega⟩
      obtain ⟨d, rfl⟩ : ∃ d, c = k + d := ⟨c - k, by omega⟩
      have hql : (b.drop k).length = q := by rw [List.length_drop]; omega
      have hget : ∀ i, i < q → wr.cell? ⟨g, o + k + i, none⟩ = some (.int .u8 (((b.drop k).getD i 0).toNat : Int)) := by
        intro i hi
        have h1 : k + i < b.length := by omega
        have := hcell (k + i) _ (bvs_get h1)
        rw [← Nat.add_assoc] at this
        rw [this]
        have e : (b.drop k).getD i 0 = b[k + i] := by simp [List.getD, h1]
        rw [e]
      generalize hr : b.drop k = r at *
      replace hr := Lib.hid hr
      replace hlb := Lib.hid hlb
      have hql := Lib.hid hql
      by_cases hq2 : q < 2
      · have hst := hsc.out.stop (by have := hlb.out; omega) (by rw [hr.out, stop_short (by have := hql.out; omega)]; omega)
        rw [hr.out, stop_short (by have := hql.out; omega)] at hst
        replace hst := Lib.hid hst
        clear hcell hget
        go_wp2
        rw [Exit.noGoto_ret]
        go_ret3
        exact scan_end hst.out hL.out hLA.out (hm.out) rfl
      · have b0 := hget 0 (by omega)
        have b1 := hget 1 (by omega)
        rw [Nat.add_zero] at b0
        have l0 := (r.getD 0 0).toNat_lt
        have l1 := (r.getD 1 0).toNat_lt
        have hnum : num r = (r.getD 0 0).toNat + 256 * (r.getD 1 0).toNat := rfl
        have hor := or_i64 _ _ l0 l1
        rw [← hnum] at hor
        have hnl : num r < 65536 := by omega
        replace hnum := Lib.hid hnum
        generalize (r.getD 0 0).toNat = x0 at *
        generalize (r.getD 1 0).toNat = x1 at *
        obtain ⟨nm, hnm⟩ : ∃ nm, nm = num r := ⟨_, rfl⟩
        rw [← hnm] at hor hnl hnum
        replace hnm := Lib.hid hnm
        by_cases hbad : nm < 1 ∨ 4096 < nm
        · have hse : stopE r = 3 := stop_num (by have := hql.out; omega) (by rw [← hnm.out]; exact hbad)
          have hst := hsc.out.stop (by have := hlb.out; omega) (by rw [hr.out, hse]; omega)
          rw [hr.out, hse] at hst
          replace hst := Lib.hid hst
          have hbad' := Lib.hid (show (nm : Int) < 1 ∨ 4096 < (nm : Int) by omega)
          clear hcell hget hse hbad
          go_wp2_with (first | go_quiet (fail) | (go_at_call 77; refine (fits_no _ _ hbad'.out).mono ?_; rintro e w1 ⟨rfl, rfl⟩))
          rw [Exit.noGoto_ret]
          go_ret3
          exact scan_end hst.out (hL.out.mod0 ((Mod.refl _ wr).drewN _)) hLA.out (hm.out.drewN _) rfl
        · have g1 : 1 ≤ nm := by omega
          have g2 : nm ≤ 4096 := by omega
          by_cases htorn : q < 6 + nm
          · have hse : stopE r = 4 := stop_torn (by have := hql.out; omega) (by rw [← hnm.out]; exact hbad) (by rw [← hnm.out, hql.out]; exact htorn)
            have hst := hsc.out.stop (by have := hlb.out; omega) (by rw [hr.out, hse]; omega)
            rw [hr.out, hse] at hst
            replace hst := Lib.hid hst
            clear hcell hget hse hbad
            go_wp2_with (first | go_quiet (fail) | (go_at_call 77; refine (fits_yes _ _ (by omega) (by omega)).mono ?_; rintro e w1 ⟨rfl, rfl⟩))
            rw [Exit.noGoto_ret]
            go_ret3
            exact scan_end hst.out (hL.out.mod0 ((Mod.refl _ wr).drewN _)) hLA.out (hm.out.drewN _) rfl
          · have b2 := hget 2 (by omega)
            have b3 := hget 3 (by omega)
            have b4 := hget 4 (by omega)
            have b5 := hget 5 (by omega)
            have hbody : RdB wr (some ⟨g, o + k + 6, none⟩) nm (body r) := by
              unfold body
              rw [← hnm.out]
              exact rdb_sub hget hql.out (by omega)
            replace hbody := Lib.hid hbody
            clear hcell hget
            have hse : crc (body r) = sumOf r → stopE r = 0 := fun he => stop_no (by have := hql.out; omega) (by rw [← hnm.out]; exact hbad) (by rw [← hnm.out, hql.out]; exact htorn) he
            have hse3 : crc (body r) ≠ sumOf r → stopE r = 3 := fun he => stop_sum (by have := hql.out; omega) (by rw [← hnm.out]; exact hbad) (by rw [← hnm.out, hql.out]; exact htorn) he
            clear hbad
            replace hse := Lib.hid hse
            replace hse3 := Lib.hid hse3
            have l2 := (r.getD 2 0).toNat_lt
            have l3 := (r.getD 3 0).toNat_lt
            have l4 := (r.getD 4 0).toNat_lt
            have l5 := (r.getD 5 0).toNat_lt
            have hsum : sumOf r = (r.getD 2 0).toNat + 256 * (r.getD 3 0).toNat + 65536 * (r.getD 4 0).toNat + 16777216 * (r.getD 5 0).toNat := rfl
            replace hsum := Lib.hid hsum
            generalize (r.getD 2 0).toNat = x2 at *
            generalize (r.getD 3 0).toNat = x3 at *
            generalize (r.getD 4 0).toNat = x4 at *
            generalize (r.getD 5 0).toNat = x5 at *
            have o1 : bits .or .u32 (x2 : Int) ((x3 : Int) * 256) = ((x2 + x3 * 256 : Nat) : Int) := or_u32 x2 x3 8 (by omega) (by omega) (by omega)
            have o2 : bits .or .u32 ((x2 + x3 * 256 : Nat) : Int) ((x4 : Int) * 65536) = ((x2 + x3 * 256 + x4 * 65536 : Nat) : Int) := or_u32 (x2 + x3 * 256) x4 16 (by omega) (by omega) (by omega)
            have o3 : bits .or .u32 ((x2 + x3 * 256 + x4 * 65536 : Nat) : Int) ((x5 : Int) * 16777216) = ((x2 + x3 * 256 + x4 * 65536 + x5 * 16777216 : Nat) : Int) := or_u32 (x2 + x3 * 256 + x4 * 65536) x5 24 (by omega) (by omega) (by omega)
            have hsv : ((x2 + x3 * 256 + x4 * 65536 + x5 * 16777216 : Nat) : Int) = (sumOf r : Int) := by rw [hsum.out]; omega
            rw [hsv] at o3
            clear hsv
            generalize x2 + x3 * 256 + x4 * 65536 = y2 at *
            generalize x2 + x3 * 256 = y1 at *
            go_upto_region 17 with (first | go_quiet (fail) | (go_at_call 77; refine (fits_yes _ _ (by omega) (by omega)).mono ?_; rintro e w1 ⟨rfl, rfl⟩))
            clear o1 o2 o3 b0 b1 b2 b3 b4 b5 hor l0 l1 l2 l3 l4 l5
            go_wp2_with fail
            (with_reducible refine (sum_ok _ _ _ _ (body r) (RdB.drewN_ hbody.out _) (by omega)).mono ?_)
            rintro e w2 ⟨rfl, hm2⟩
            by_cases hcs : crc (body r) = sumOf r
            · have e1 : ((crc (body r) : Int) != (sumOf r : Int)) = false := by rw [hcs]; simp
              have hgo := hsc.out.go (by have := hlb.out; omega) (by rw [hr.out]; exact hse.out hcs)
              rw [hr.out, ← hnm.out] at hgo
              replace hgo := Lib.hid hgo
              replace hcs := Lib.hid hcs
              have hm3 := Lib.hid ((hm.out.drewN _).trans hm2)
              have hL3 := Lib.hid ((hL.out.mod0 ((Mod.refl _ wr).drewN _)).mod0 hm2)
              have hb3' : RdB w2 (some ⟨g, o + k + 6, none⟩) nm (body r) := Rd.mod0 (RdB.drewN_ hbody.out _) hm2
              have hb3 := Lib.hid hb3'
              clear hb3'
              clear hm2
              go_wp2_with fail
              (with_reducible refine (clone_b _ (body r) _ _ _ hb3.out (by omega)).mono ?_)
              rintro e w4 ⟨B4, b4, rfl, ho4, hf4, hm4⟩
              have hm5 := Lib.hid (hm3.out.trans hm4)
              have hL5 := Lib.hid (hL3.out.mod0 hm4)
              have ht : Txt1 (w4.alloc (.cells #[.slice B4 nm b4] 22)) LA ⟨B4, nm, b4⟩ (body r) := by
                refine ⟨Rd.alloc ho4.rd _, ho4.2.1, by have := ho4.2.2.1; simpa [maxLen] using this, fun _ k hk => ⟨?_, ?_⟩⟩
                · have := ho4.lt k hk; simp; omega
                · exact Fresh.apart hf4 (fun k hk => hL3.out.1.lt k hk) k hk
              replace ht := Lib.hid ht
              clear ho4 hf4 hm4
              go_wp2_with (at_builtin; refine wpList_append_ow rfl (.tmp 76) (.tmp 79) 85 rfl 22 i0 _ 1 24 Tryz.underlying85 hi hz0 hz1 hz2 rfl (by omega) LA m lc (ss.map SV.v) rfl (hL5.out.1.mod0 ((Mod.refl none_ w4).alloc _)) (some ⟨w4.heap.size, 0, none⟩) 1 1 [.slice B4 nm b4] rfl (rdn w4 _ 1 1 _ _ (0, 0) rfl rfl) (by simp [Value.oneCell']) (by omega) (by omega) ?_; intro A5 c5 w5 hown5 hmod5 hA5)
              have hA5' : A5 = LA ∨ ∃ g, A5 = some ⟨g, 0, none⟩ ∧ (w4.alloc (.cells #[.slice B4 nm b4] 22)).heap.size ≤ g := by
                rcases hA5 with h | h
                · exact .inl h
                · exact .inr ⟨_, h, by simp⟩
              have hL6 := (hL5.out.mod0 ((Mod.refl none_ w4).alloc _)).push ht.out hown5 hmod5 hA5'
              have hLA6 : ∀ i, fp A5 i → w.heap.size ≤ i := by
                rintro i ⟨a, ha, rfl⟩
                rcases hA5 with rfl | rfl
                · exact hLA.out _ ⟨a, ha, rfl⟩
                · cases ha; have := hm5.out.size; simp; omega
              have hm6 : Mod none_ w w5 := (hm5.out.alloc _).then hmod5 fun i hi hf => by have := hLA.out i hf; omega
              have hnext : ScanRel w b (k + (6 + nm)) (.slice A5 (m + 1) c5) w5 := ⟨A5, m + 1, c5, _, _, rfl, hL6, hLA6, hgo.out, hm6, by omega⟩
              replace hnext := Lib.hid hnext
              clear hL6 hLA6 hm6 hA5 hA5' hown5 hmod5
              go_wp2
              go_roundw
              case rel => exact ⟨k + (6 + nm), by go_num, rfl, hnext.out, by omega⟩
              case measure => simp [intOf]; omega
            · have e1 : ((crc (body r) : Int) != (sumOf r : Int)) = true := by simp; omega
              have hse := hse3.out hcs
              have hst := hsc.out.stop (by have := hlb.out; omega) (by rw [hr.out, hse]; omega)
              rw [hr.out, hse] at hst
              replace hst := Lib.hid hst
              replace hcs := Lib.hid hcs
              have hm3 := Lib.hid ((hm.out.drewN _).trans hm2)
              have hL3 := Lib.hid ((hL.out.mod0 ((Mod.refl _ wr).drewN _)).mod0 hm2)
              clear hse hm2
              go_wp2
              rw [Exit.noGoto_ret]
              go_ret3
              exact scan_end hst.out hL3.out hLA.out hm3.out rfl
    · have hst := hsc.out.done (by have := hl.out; omega)
      replace hst := Lib.hid hst
      replace hm := Lib.hid hm
      go_wp2
      rw [Exit.noGoto_ret]
      go_ret3
      exact scan_end hst.out hL.out hLA.out (hm.out) rfl
end Go.Proofs.YtdnbclhidpkpgaaGreat
