import Derived.Test.YtfkfiokkjjnhiaaGreatUp9
import Derived.Deep.LoopGhost
import Derived.Test.YtfkfiokkjjnhiaaGreatUp2
import Derived.Deep.DeepCutAuto
import Derived.Test.YtfkfiokkjjnhiaaGreatUp1
set_option linter.unusedVariables false
set_option linter.unusedSimpArgs false
set_option maxHeartbeats 16000000
namespace Go.Proofs.YtfkfiokkjjnhiaaGreat
open Go.RowKit
def ListRel {α : Type} (p : PR α) (all : List α) (fin : RS) (left : Nat) (pre : List α) (s : RS) : Prop := ∃ rest, rdList p left s = (rest, fin) ∧ pre ++ rest = all
theorem ListRel.step {α : Type} {p : PR α} {all pre : List α} {fin s s1 : RS} {n : Nat} {x : α} (h : ListRel p all fin (n + 1) pre s) (h1 : p s = (x, s1)) : ListRel p all fin n (pre ++ [x]) s1 := by
 obtain ⟨rest, h2, h3⟩ := h
 exact rdList_step h1 h2 h3
theorem ListRel.done {α : Type} {p : PR α} {all pre : List α} {fin s : RS} (h : ListRel p all fin 0 pre s) : pre = all ∧ s = fin := by
 obtain ⟨rest, h2, h3⟩ := h
 simp only [rdList, pu, Prod.mk.injEq] at h2
 obtain ⟨rfl, h2⟩ := h2
 exact ⟨by simpa using h3, h2⟩
structure FillSt (w : World) (t : TypeId) (z : Array Value) (g B q : Nat) (W : World) (cs : Array Value) (e : Nat) (l : List UInt8) : Prop where
 rd : Rdr W g B l e
 res : Blk W w.heap.size t z
 var : Blk W q t cs
 mod : Mod none_ w W
 gw : w.heap.size < g
 bw : w.heap.size < B
 qw : w.heap.size < q
 qg : q ≠ g
 qb : q ≠ B
 bl : B < W.heap.size
section
variable {w : World} {t : TypeId} {z : Array Value} {g B q : Nat} {W W' : World} {cs : Array Value} {e e' : Nat} {l l' : List UInt8}
theorem FillSt.call (h : FillSt w t z g B q W cs e l) (hm : Mod (only g) W W') (hr : Rdr W' g B l' e') : FillSt w t z g B q W' cs e' l' :=
 ⟨hr, h.res.mod hm (fun hh => by have : w.heap.size = g := hh; have := h.gw; omega), h.var.mod hm (fun hh => h.qg hh), h.mod.in_new (Nat.le_of_lt h.gw) hm, h.gw, h.bw, h.qw, h.qg, h.qb, Nat.lt_of_lt_of_le h.bl hm.size⟩
theorem FillSt.mod0 (h : FillSt w t z g B q W cs e l) (hm : Mod none_ W W') : FillSt w t z g B q W' cs e l :=
 ⟨h.rd.mod0 hm, h.res.mod hm (fun hh => hh), h.var.mod hm (fun hh => hh), h.mod.trans hm, h.gw, h.bw, h.qw, h.qg, h.qb, Nat.lt_of_lt_of_le h.bl hm.size⟩
theorem FillSt.alloc (h : FillSt w t z g B q W cs e l) (o : Obj) : FillSt w t z g B q (W.alloc o) cs e l := h.mod0 ((Mod.refl none_ W).alloc o)
theorem FillSt.drew (h : FillSt w t z g B q W cs e l) : FillSt w t z g B q W.drew cs e l := h.mod0 (Mod.refl none_ W).drew
theorem FillSt.own (h : FillSt w t z g B q W cs e l) {F : Nat → Prop} (hm : Mod F W W') (h1 : ¬ F g) (h2 : ¬ F B) (h3 : ¬ F q) (h4 : ∀ k, F k → w.heap.size < k) : FillSt w t z g B q W' cs e l :=
 ⟨h.rd.mod hm h1 h2, h.res.mod hm (fun hh => by have := h4 _ hh; omega), h.var.mod hm h3, h.mod.then hm (fun i hi hk => by have := h4 _ hk; omega), h.gw, h.bw, h.qw, h.qg, h.qb, Nat.lt_of_lt_of_le h.bl hm.size⟩
theorem FillSt.store (h : FillSt w t z g B q W cs e l) (o : Nat) (v : Value) : FillSt w t z g B q (W.setCell ⟨q, o, none⟩ v) (cs.setIfInBounds o v) e l :=
 have hm := (Mod.refl (only q) W).set_only o v
 ⟨h.rd.mod hm (fun hh => h.qg hh.symm) (fun hh => h.qb hh.symm), h.res.mod hm (fun hh => by have : w.heap.size = q := hh; have := h.qw; omega), h.var.set_ o v, h.mod.in_new (Nat.le_of_lt h.qw) hm, h.gw, h.bw, h.qw, h.qg, h.qb, Nat.lt_of_lt_of_le h.bl hm.size⟩
theorem FillSt.turn (h : FillSt w t z g B q W cs e l) {cs' : Array Value} (hm : Mod (only q) W W') (hv : Blk W' q t cs') : FillSt w t z g B q W' cs' e l :=
 ⟨h.rd.mod hm (fun hh => h.qg hh.symm) (fun hh => h.qb hh.symm), h.res.mod hm (fun hh => by have : w.heap.size = q := hh; have := h.qw; omega), hv, h.mod.in_new (Nat.le_of_lt h.qw) hm, h.gw, h.bw, h.qw, h.qg, h.qb, Nat.lt_of_lt_of_le h.bl hm.size⟩
end
structure ListOwn (w : World) (t : TypeId) (size g B q : Nat) (W : World) (A : Option Addr) (m cp : Nat) (xs : List Value) : Prop where
 ow : Ow W t size A m cp xs
 fr : ∀ k, fp A k → w.heap.size < k
 ng : ¬ fp A g
 nb : ¬ fp A B
 nq : ¬ fp A q
theorem ListOwn.nil (w : World) (t : TypeId) (size g B q : Nat) (W : World) : ListOwn w t size g B q W none 0 0 [] :=
 ⟨Ow.nil _ _ _, (fun k h => by obtain ⟨a, ha, _⟩ := h; cases ha), (fun h => by obtain ⟨a, ha, _⟩ := h; cases ha), (fun h => by obtain ⟨a, ha, _⟩ := h; cases ha), (fun h => by obtain ⟨a, ha, _⟩ := h; cases ha)⟩
theorem ListOwn.mod {w : World} {t : TypeId} {size g B q : Nat} {W W' : World} {A : Option Addr} {m cp : Nat} {xs : List Value} (h : ListOwn w t size g B q W A m cp xs) {F : Nat → Prop} (hm : Mod F W W') (hF : ∀ k, fp A k → ¬ F k) : ListOwn w t size g B q W' A m cp xs :=
 ⟨h.ow.mod hm hF, h.fr, h.ng, h.nb, h.nq⟩
theorem ListOwn.call {w : World} {t : TypeId} {size g B q : Nat} {W W' : World} {A : Option Addr} {m cp : Nat} {xs : List Value} (h : ListOwn w t size g B q W A m cp xs) (hm : Mod (only g) W W') : ListOwn w t size g B q W' A m cp xs :=
 h.mod hm (fun k hk hh => by have : k = g := hh; subst this; exact h.ng hk)
theorem ListOwn.turn {w : World} {t : TypeId} {size g B q : Nat} {W W' : World} {A : Option Addr} {m cp : Nat} {xs : List Value} (h : ListOwn w t size g B q W A m cp xs) (hm : Mod (only q) W W') : ListOwn w t size g B q W' A m cp xs :=
 h.mod hm (fun k hk hh => by have : k = q := hh; subst this; exact h.nq hk)
theorem ListOwn.mod0 {w : World} {t : TypeId} {size g B q : Nat} {W W' : World} {A : Option Addr} {m cp : Nat} {xs : List Value} (h : ListOwn w t size g B q W A m cp xs) (hm : Mod none_ W W') : ListOwn w t size g B q W' A m cp xs :=
 h.mod hm (fun k hk hh => hh)
theorem ListOwn.app {w : World} {t t' : TypeId} {z cs : Array Value} {size g B q e : Nat} {l : List UInt8} {W W' : World} {A A' : Option Addr} {m cp m' cp' : Nat} {xs xs' : List Value} (h : ListOwn w t size g B q W A m cp xs) (st : FillSt w t' z g B q W cs e l)
  (ho : Ow W' t size A' m' cp' xs') (hm : Mod (fp A) W W') (hA : A' = A ∨ A' = some ⟨W.heap.size, 0, none⟩) : ListOwn w t size g B q W' A' m' cp' xs' ∧ FillSt w t' z g B q W' cs e l := by
 refine ⟨?_, st.own hm h.ng h.nb h.nq h.fr⟩
 rcases hA with rfl | rfl
 ·exact ⟨ho, h.fr, h.ng, h.nb, h.nq⟩
 ·have h1 := st.rd.lt
  have h2 := st.bl
  have h3 := st.var.lt
  have h4 := st.res.lt
  refine ⟨ho, ?_, ?_, ?_, ?_⟩
  ·rintro k ⟨a, ha, rfl⟩; cases ha; exact h4
  ·rintro ⟨a, ha, hk⟩; cases ha; simp only at hk; omega
  ·rintro ⟨a, ha, hk⟩; cases ha; simp only at hk; omega
  ·rintro ⟨a, ha, hk⟩; cases ha; simp only at hk; omega
set_option maxRecDepth 512
theorem slot_size : (Tryz.prog.info? 55).map (·.size) = some 15 := by kernel_rfl
theorem rdi_row (w : World) (e : TypeId) (g : Nat) (hg : g = w.heap.size) (xs : List Int) : RdI (w.alloc (.cells (ivs xs).toArray e)) (some ⟨g, 0, none⟩) xs.length xs :=
 rdn w e 1 xs.length g (ivs xs).toArray (0, 0) hg (by simp [ivs])
theorem lnums_row (w : World) (e : TypeId) (g : Nat) (hg : g = w.heap.size) (xs : List Int) (n : Nat) (hn : xs.length = n) (hn2 : n ≤ 1000) (hin : ∀ x ∈ xs, in64 x) (cs : Array Value) (hcs : (ivs xs).toArray = cs) :
  Calls Tryz.prog 181 #[.slice (some ⟨g, 0, none⟩) n n] (w.alloc (.cells cs e)) (BytesPost (w.alloc (.cells cs e)) (xs.flatMap nb)) := by
 subst hcs hn hg
 exact lnums_ok _ _ _ _ _ (rdi_row w e _ rfl xs) hn2 hin
theorem ByAt.conv {w : World} {s : SV} {l : List UInt8} (h : ByAt w s l) : (convert 126 9 (.slice s.a s.n s.c)).run Tryz.prog w = .ok (.string (txt l)) w :=
 run_string_of_bytes w _ _ 5 Tryz.underlying126 Tryz.underlying5 Tryz.underlying9 s.a s.n s.c l h.rd
structure OwnB (w W : World) (A : Option Addr) (n c : Nat) (l : List UInt8) : Prop where
 ow : OwB W 5 A n c l
 fr : Fresh w A
 sm : n ≤ 100000000
theorem OwnB.mod0 {w W W' : World} {A : Option Addr} {n c : Nat} {l : List UInt8} (h : OwnB w W A n c l) (hm : Mod none_ W W') : OwnB w W' A n c l := ⟨h.ow.mod0 hm, h.fr, h.sm⟩
theorem OwnB.at_ {w W : World} {A : Option Addr} {n c : Nat} {l : List UInt8} (h : OwnB w W A n c l) : ByAt W ⟨A, n, c⟩ l := ⟨h.ow.rd, h.sm⟩
theorem OwnB.of {w w1 W : World} {A : Option Addr} {c : Nat} {l : List UInt8} (h : OwB W 5 A l.length c l) (hf : Fresh w1 A) (hm : Mod none_ w w1) (hl : l.length ≤ 100000000) : OwnB w W A l.length c l := ⟨h, hf.later hm.size, hl⟩
theorem OwnB.app {w W W' : World} {A A' : Option Addr} {n c m c' : Nat} {l l' : List UInt8} (h : OwnB w W A n c l) (hM : Mod none_ w W) (ho : OwB W' 5 A' (n + m) c' (l ++ l')) (hm : Mod (fp A) W W') (hA : A' = A ∨ A' = some ⟨W.heap.size, 0, none⟩) (hs : n + m ≤ 100000000) :
  OwnB w W' A' (n + m) c' (l ++ l') ∧ Mod none_ w W' := ⟨⟨ho, h.fr.app hM.size hA, hs⟩, hM.app h.fr hm⟩
theorem headB_flat (r : Rc) : [r.i.r, r.i.n, r.bal, r.st, r.by_].flatMap nb = headB r := by simp [headB]
theorem headB_len (r : Rc) : (headB r).length ≤ 50 := by
 have := nb_len r.i.r
 have := nb_len r.i.n
 have := nb_len r.bal
 have := nb_len r.st
 have := nb_len r.by_
 unfold headB
 simp only [List.length_append]
 omega
structure BufSt (w : World) (t : TypeId) (q : Nat) (cs : Array Value) (W : World) (A : Option Addr) (n c : Nat) (l : List UInt8) : Prop where
 own : OwnB w W A n c l
 mod : Mod none_ w W
 blk : Blk W q t cs
 aq : ∀ k, fp A k → q < k
section
variable {w : World} {t : TypeId} {q : Nat} {cs : Array Value} {W W' : World} {A A' : Option Addr} {n c m c' : Nat} {l l' : List UInt8}
theorem BufSt.mod0 (h : BufSt w t q cs W A n c l) (hm : Mod none_ W W') : BufSt w t q cs W' A n c l := ⟨h.own.mod0 hm, h.mod.trans hm, h.blk.mod hm (fun h => h), h.aq⟩
theorem BufSt.app (h : BufSt w t q cs W A n c l) (ho : OwB W' 5 A' (n + m) c' (l ++ l')) (hm : Mod (fp A) W W') (hA : A' = A ∨ A' = some ⟨W.heap.size, 0, none⟩) (hs : n + m ≤ 100000000) : BufSt w t q cs W' A' (n + m) c' (l ++ l') := by
 obtain ⟨h1, h2⟩ := h.own.app h.mod ho hm hA hs
 refine ⟨h1, h2, h.blk.mod hm (fun hh => by have := h.aq _ hh; omega), ?_⟩
 rcases hA with rfl | rfl
 ·exact h.aq
 ·rintro k ⟨a, ha, rfl⟩; cases ha; exact h.blk.lt
theorem BufSt.len (h : BufSt w t q cs W A n c l) : l.length = n := h.own.ow.len
theorem BufSt.new (hm : Mod none_ w W) (hb : Blk W q t cs) (ho : OwB W' 5 A l.length c l) (hf : Fresh W A) (hm2 : Mod none_ W W') (hl : l.length ≤ 100000000) : BufSt w t q cs W' A l.length c l :=
 ⟨OwnB.of ho hf hm hl, hm.trans hm2, hb.mod hm2 (fun h => h), fun k hk => by obtain ⟨a, ha, rfl⟩ := hk; have := hf a ha; have := hb.lt; omega⟩
end
set_option maxRecDepth 100000
theorem logBytes_ok (w : World) (r : Rc) (L D : SV) (hE : EnM w r.e L D) (hL : L.n ≤ 140737488355328) (hD : D.n ≤ 140737488355328) (hk : (Lit.int .i64 r.e.o.k).wf = true) (hz : ∀ l ∈ r.e.o.legs, (txt l.n).size ≤ maxLen) (hn : numsE r.e) :
  Calls Tryz.prog 134 #[.agg #[.int .i64 r.i.r, .int .i64 r.i.n, .int .i64 r.bal, .int .i64 r.st, .int .i64 r.by_, .int .i64 r.e.o.c, .int .i64 r.e.o.s, .int .i64 r.e.o.k, .string (txt r.e.o.acct), .string (txt r.e.o.peer), .int .i64 r.e.o.sum, .slice L.a L.n L.c, .int .i64 r.e.o.per, .int .i64 r.e.o.hold, .string (txt r.e.o.note), .bool r.e.none, .slice D.a D.n D.c]] w (BPost w (rightR r) (recB r)) := by
 have hB := Blk.new w 57 #[.int .i64 r.i.r, .int .i64 r.i.n, .int .i64 r.bal, .int .i64 r.st, .int .i64 r.by_, .int .i64 r.e.o.c, .int .i64 r.e.o.s, .int .i64 r.e.o.k, .string (txt r.e.o.acct), .string (txt r.e.o.peer), .int .i64 r.e.o.sum, .slice L.a L.n L.c, .int .i64 r.e.o.per, .int .i64 r.e.o.hold, .string (txt r.e.o.note), .bool r.e.none, .slice D.a D.n D.c]
 have hm0 := (Mod.refl none_ w).alloc (.cells #[.int .i64 r.i.r, .int .i64 r.i.n, .int .i64 r.bal, .int .i64 r.st, .int .i64 r.by_, .int .i64 r.e.o.c, .int .i64 r.e.o.s, .int .i64 r.e.o.k, .string (txt r.e.o.acct), .string (txt r.e.o.peer), .int .i64 r.e.o.sum, .slice L.a L.n L.c, .int .i64 r.e.o.per, .int .i64 r.e.o.hold, .string (txt r.e.o.note), .bool r.e.none, .slice D.a D.n D.c] 57)
 have kR := zH (rightR_ok _ r L D (hE.mod0 hm0) hL hD hk hz)
 have kO := zH (fun W (h : Mod none_ w W) => orderBytes_ok W r.e.o L (hE.od.mod0 h) hL hk hz hn)
 have hrdD := zH hE.rd
 have hdl := zH hE.rd.len
 replace hB := zH hB
 replace hm0 := zH hm0
 replace hz := zH hz
 go_enter Tryz.func134, Tryz.ntmps134
 go_wp2_with (refine wpList_load_row rfl 57 (.tmp 1) rfl w.heap.size rfl _ _ _ _ hB.out Tryz.underlying57 rfl record_size ?_)
 with_reducible refine kR.out.mono ?_
 rintro e w1 ⟨rfl, hm1⟩
 dsimp only
 cases hr : rightR r with
 | false =>
  replace hr := zH hr
  replace hm1 := zH hm1
  go_wp2_with fail
  go_ret2
  exact .inr ⟨hr.out, rfl, hm0.out.trans hm1.out⟩
 | true =>
  have hok := rightR_okRc hr hn
  obtain ⟨⟨⟨k1, k1'⟩, ⟨k2, k2'⟩⟩, ⟨k3, k3'⟩, ⟨k4, k4'⟩, ⟨k5, k5'⟩, k6⟩ := hok
  have hB1 := hB.out.mod hm1 (fun h => h)
  have hmm := zH (hm0.out.trans hm1)
  have hBs := Blk.new w1 55 #[.int .i64 r.bal, .int .i64 r.st, .int .i64 r.by_, .int .i64 r.e.o.c, .int .i64 r.e.o.s, .int .i64 r.e.o.k, .string (txt r.e.o.acct), .string (txt r.e.o.peer), .int .i64 r.e.o.sum, .slice L.a L.n L.c, .int .i64 r.e.o.per, .int .i64 r.e.o.hold, .string (txt r.e.o.note), .bool r.e.none, .slice D.a D.n D.c]
  have c0 : w1.cell? ⟨w.heap.size, 0, none⟩ = some (.int .i64 r.i.r) := hB1.cell_ rfl
  have c1 : w1.cell? ⟨w.heap.size, 1, none⟩ = some (.int .i64 r.i.n) := hB1.cell_ rfl
  have hwl := hB1.lt
  have kn := lnums_row (w1.alloc (.cells #[.int .i64 r.bal, .int .i64 r.st, .int .i64 r.by_, .int .i64 r.e.o.c, .int .i64 r.e.o.s, .int .i64 r.e.o.k, .string (txt r.e.o.acct), .string (txt r.e.o.peer), .int .i64 r.e.o.sum, .slice L.a L.n L.c, .int .i64 r.e.o.per, .int .i64 r.e.o.hold, .string (txt r.e.o.note), .bool r.e.none, .slice D.a D.n D.c] 55)) 3 (w1.heap.size + 1) (by simp) [r.i.r, r.i.n, r.bal, r.st, r.by_] 5 rfl (by omega) (fun x hx => by simp at hx; rcases hx with rfl | rfl | rfl | rfl | rfl <;> exact in64_mk (by omega) (by omega)) #[.int .i64 r.i.r, .int .i64 r.i.n, .int .i64 r.bal, .int .i64 r.st, .int .i64 r.by_] rfl
  rw [headB_flat] at kn
  replace hr := zH hr
  replace hm1 := zH hm1
  replace hB1 := zH hB1
  replace hBs := zH hBs
  replace k6 := zH k6
  replace kn := zH kn
  replace hn := zH hn
  clear hB
  go_wp2_with (refine wpList_load_blk rfl 55 (.tmp 13) rfl w.heap.size 2 rfl hB1.out [.int .i64 r.bal, .int .i64 r.st, .int .i64 r.by_, .int .i64 r.e.o.c, .int .i64 r.e.o.s, .int .i64 r.e.o.k, .string (txt r.e.o.acct), .string (txt r.e.o.peer), .int .i64 r.e.o.sum, .slice L.a L.n L.c, .int .i64 r.e.o.per, .int .i64 r.e.o.hold, .string (txt r.e.o.note), .bool r.e.none, .slice D.a D.n D.c] rfl Tryz.underlying55 rfl slot_size ?_)
  refine kn.out.mono ?_; rintro e w5 ⟨A5, c5, rfl, ho5, hf5, hm5⟩; dsimp only
  have hhl := headB_len r
  have zb5 := zH (BufSt.new (hmm.out.alloc _) hBs.out ho5 (hf5.later (by simp)) (((Mod.refl none_ _).alloc _).trans hm5) (by omega))
  generalize hq : w1.heap.size = q at *
  generalize hg5 : (headB r).length = n5 at *
  have s1 : w5.cell? ⟨q, 1, none⟩ = some (.int .i64 r.st) := zb5.out.blk.cell_ rfl
  have s13 : w5.cell? ⟨q, 13, none⟩ = some (.bool r.e.none) := zb5.out.blk.cell_ rfl
  clear ho5 hf5 hm5 kn hB1 hBs c0 c1 hmm hwl hm1 hm0
  replace hq := zH hq
  replace hg5 := zH hg5
  by_cases hs : r.st = 0
  ·rw [hs] at s1
   have hrec : Hid (headB r = recB r) := zH (by unfold recB; rw [if_pos hs, List.append_nil])
   replace hs := zH hs
   go_wp2_with fail
   go_ret2
   have h1 := zb5.out
   rw [hrec.out] at h1
   have h2 := h1.len
   subst h2
   exact .inl ⟨hr.out, A5, c5, rfl, h1.own.ow, h1.own.fr, h1.mod⟩
  ·have k6 := k6.out
   rw [if_neg hs] at k6
   obtain ⟨k7, k8, k9⟩ := k6
   have hst2 : (r.st == 0) = false := by simp; exact hs
   have hdk := zH k9
   have hD100 : D.n ≤ 100 := by rw [← hdl.out]; exact k8
   have hrec0 : recB r = headB r ++ entB r.e := by unfold recB; rw [if_neg hs]
   clear k8 k9
   replace hs := zH hs
   cases hnn : r.e.none with
   | true =>
    rw [hnn] at s13 k7
    have hrec : Hid (recB r = headB r ++ (nb 1 ++ (nb (r.e.deps.length : Int) ++ r.e.deps.flatMap isB))) := zH (by rw [hrec0]; unfold entB; rw [hnn]; simp)
    clear hrec0 k7
    replace hnn := zH hnn
    have kn := lnums_row w5 3 w5.heap.size rfl [1] 1 rfl (by omega) (fun x hx => by simp at hx; subst hx; exact in64_mk (by omega) (by omega)) #[.int .i64 1] rfl
    have hfl : [(1 : Int)].flatMap nb = nb 1 := by simp
    rw [hfl] at kn
    clear hfl
    go_wp2_with fail
    refine kn.mono ?_; rintro e w6 ⟨A6, c6, rfl, ho6, hf6, hm6⟩; dsimp only
    have zb6 := zH (zb5.out.mod0 (((Mod.refl none_ w5).alloc (.cells #[.int .i64 1] 3)).trans hm6))
    have hl6 := nb_len 1
    generalize hg6 : (nb 1).length = n6 at *
    clear hm6 kn hf6 zb5 s1 s13
    replace ho6 := zH ho6
    replace hg6 := zH hg6
    go_upto_region 11 with (at_builtin; go_loud (refine app8 rfl (.tmp 53) (.tmp 55) rfl rfl zb6.out.own.ow rfl ho6.out.rd (by omega) ?_; intro Ab cb W ho7 hm7 hA7; have zb := zH (zb6.out.app ho7 hm7 hA7 (by omega)); clear ho7 hm7 hA7))
    have ss : W.cell? ⟨q, 14, none⟩ = some (.slice D.a D.n D.c) := zb.out.blk.cell_ rfl
    have kn := lnums_row W 3 W.heap.size rfl [(D.n : Int)] 1 rfl (by omega) (fun x hx => by simp at hx; subst hx; exact in64_mk (by omega) (by omega)) #[.int .i64 (D.n : Int)] rfl
    have hfl6 : [(D.n : Int)].flatMap nb = nb (D.n : Int) := by simp
    rw [hfl6] at kn
    clear hfl6
    go_wp2_with fail
    refine kn.mono ?_; rintro e w6 ⟨A6, c6, rfl, ho6, hf6, hm6⟩; dsimp only
    have zb6 := zH (zb.out.mod0 (((Mod.refl none_ W).alloc (.cells #[.int .i64 (D.n : Int)] 3)).trans hm6))
    have hl6 := nb_len (D.n : Int)
    generalize hg6 : (nb (D.n : Int)).length = n6 at *
    clear hm6 kn hf6 ss zb
    replace ho6 := zH ho6
    replace hg6 := zH hg6
    go_wp2_with (at_builtin; go_loud (refine app8 rfl (.tmp 57) (.tmp 63) rfl rfl zb6.out.own.ow rfl ho6.out.rd (by omega) ?_; intro A7 c7 w7 ho7 hm7 hA7; have zb7 := zH (zb6.out.app ho7 hm7 hA7 (by omega)); have s7 := zb7.out.blk.cell_ (i := 14) (v := .slice D.a D.n D.c) rfl; clear ho7 hm7 hA7))
    clear s7
    go_loopw [5, 69] (fun v x wr => ∃ j : Nat, x = .int .i64 j ∧ j ≤ D.n ∧ ∃ A n c, v = .slice A n c ∧ n ≤ 70 + j * 20 ∧ BufSt w 55 q #[.int .i64 r.bal, .int .i64 r.st, .int .i64 r.by_, .int .i64 r.e.o.c, .int .i64 r.e.o.s, .int .i64 r.e.o.k, .string (txt r.e.o.acct), .string (txt r.e.o.peer), .int .i64 r.e.o.sum, .slice L.a L.n L.c, .int .i64 r.e.o.per, .int .i64 r.e.o.hold, .string (txt r.e.o.note), .bool r.e.none, .slice D.a D.n D.c] wr A n c (((headB r ++ nb 1) ++ nb (D.n : Int)) ++ (r.e.deps.take j).flatMap isB)) (fun _ x _ => D.n - (intOf x).toNat)
    case atStart => exact ⟨0, rfl, by omega, A7, _, c7, rfl, by omega, by simpa using zb7.out⟩
    case round =>
     obtain ⟨j, rfl, hj, A, n, c, rfl, hnj, zb⟩ := hrel
     by_cases hlt : j < D.n
     ·obtain ⟨b, p, d, hDa, hdm, hdj, x1, x2⟩ := rdp_get (hrdD.out.mod0 zb.mod) hlt
      have hdi := hdk.out d hdm
      rw [hDa]
      have kn := lnums_row (wr.alloc (.cells #[.int .i64 d.r, .int .i64 d.n] 27)) 3 (wr.heap.size + 1) (by simp) [d.r, d.n] 2 rfl (by omega) (fun x hx => by simp at hx; rcases hx with rfl | rfl <;> exact in64_mk (by have := hdi.1; have := hdi.2; omega) (by have := hdi.1; have := hdi.2; omega)) #[.int .i64 d.r, .int .i64 d.n] rfl
      have hfl6 : [d.r, d.n].flatMap nb = isB d := by simp [isB]
      rw [hfl6] at kn
      clear hfl6
      replace zb := zH zb
      replace hdm := zH hdm
      replace hdj := zH hdj
      replace hdi := zH hdi
      go_wp2_with fail
      refine kn.mono ?_; rintro e w8 ⟨A8, c8, rfl, ho8, hf8, hm8⟩; dsimp only
      have zb8 := zH (zb.out.mod0 ((((Mod.refl none_ wr).alloc (.cells #[.int .i64 d.r, .int .i64 d.n] 27)).alloc (.cells #[.int .i64 d.r, .int .i64 d.n] 3)).trans hm8))
      have hl8 : (isB d).length ≤ 20 := by have := nb_len d.r; have := nb_len d.n; unfold isB; rw [List.length_append]; omega
      generalize hg8 : (isB d).length = n8 at *
      clear hm8 kn hf8 zb
      replace ho8 := zH ho8
      replace hg8 := zH hg8
      go_wp2_with (at_builtin; go_loud (refine app8 rfl (.tmp 73) (.tmp 79) rfl rfl zb8.out.own.ow rfl ho8.out.rd (by omega) ?_; intro A9 c9 w9 ho9 hm9 hA9; have zb9 := zH (zb8.out.app ho9 hm9 hA9 (by omega)); clear ho9 hm9 hA9))
      go_roundw
      case rel =>
       refine ⟨j + 1, by go_num, by omega, A9, _, c9, rfl, by omega, ?_⟩
       have e1 : (r.e.deps.take (j + 1)).flatMap isB = (r.e.deps.take j).flatMap isB ++ isB d := by rw [List.take_add_one, hdj.out]; simp
       rw [e1, ← List.append_assoc]
       have h9 := zb9.out
       rw [hDa] at h9
       exact h9
      case measure => simp [intOf]; omega
     ·have hjl : j = D.n := by omega
      subst hjl
      rw [List.take_of_length_le (by have := hdl.out; omega)] at zb
      have hlist : ((headB r ++ nb 1) ++ nb (D.n : Int)) ++ r.e.deps.flatMap isB = recB r := by rw [hrec.out, ← hdl.out]; simp
      rw [hlist] at zb
      have hlen := zb.len
      subst hlen
      clear hlist
      replace zb := zH zb
      generalize hlo : recB r = lo at *
      replace hlo := zH hlo
      go_wp2_with fail
      go_ret2
      exact .inl ⟨hr.out, A, c, rfl, zb.out.own.ow, zb.out.own.fr, zb.out.mod⟩
   | false =>
    rw [hnn] at s13 k7
    simp only [Bool.false_eq_true, if_false] at k7
    obtain ⟨k7, k8⟩ := k7
    have hol := orderB_len k8
    have hrec : Hid (recB r = headB r ++ ((nb 0 ++ txtB (orderB r.e.o)) ++ (nb (r.e.deps.length : Int) ++ r.e.deps.flatMap isB))) := zH (by rw [hrec0]; unfold entB; rw [hnn]; simp)
    clear hrec0 k8
    have kO5 := kO.out w5 zb5.out.mod
    rw [k7] at kO5
    replace hnn := zH hnn
    replace k7 := zH k7
    go_wp2_with (refine wpList_load_blk rfl 40 (.tmp 31) rfl q 3 rfl zb5.out.blk [.int .i64 r.e.o.c, .int .i64 r.e.o.s, .int .i64 r.e.o.k, .string (txt r.e.o.acct), .string (txt r.e.o.peer), .int .i64 r.e.o.sum, .slice L.a L.n L.c, .int .i64 r.e.o.per, .int .i64 r.e.o.hold, .string (txt r.e.o.note)] rfl Tryz.underlying40 rfl order_size ?_)
    with_reducible refine kO5.mono ?_
    rintro e w6 hpost
    obtain ⟨A6, c6, rfl, ho6, hf6, hm6⟩ : ∃ A c, e = .returned (.tuple #[.slice A (orderB r.e.o).length c, .int .i64 0]) ∧ OwB w6 5 A (orderB r.e.o).length c (orderB r.e.o) ∧ Fresh w5 A ∧ Mod none_ w5 w6 := by
     rcases hpost with ⟨_, h⟩ | ⟨h, _⟩
     ·exact h
     ·cases h
    dsimp only
    have zb6 := zH (zb5.out.mod0 hm6)
    have zo6 := zH (ByAt.of_ow ho6 (by omega))
    generalize hgo : (orderB r.e.o).length = m6 at *
    replace hgo := zH hgo
    clear hpost ho6 hf6 hm6 kO5 s1 s13 zb5
    go_wp2_with fail
    have hM0 := zH ((Mod.refl none_ w6).drew)
    have kC6 := zH (fun W (h : Mod none_ w6 W) => ByAt.conv (zo6.out.mod0 h))
    dsimp only at kC6
    refine wp_region_held_drew (S := fun W => Mod none_ w6 W) (by kernel_rfl) hM0.out (fun hHeld => ?_)
    refine tkZ 0 ?_ rfl ?_ ?_
    rotate_left
    ·intro W hSw; (try dsimp only at hSw); go_simp; (try with_reducible rfl)
    try simp only [Act.put, q1Z, q2Z, q3Z, q4Z, q5Z, q6Z]
    refine tkZ 3 ?_ rfl ?_ ?_
    rotate_left
    ·intro W hSw; (try dsimp only at hSw); go_simp; (try with_reducible rfl)
    try simp only [Act.put, q1Z, q2Z, q3Z, q4Z, q5Z, q6Z]
    refine tkZ 4 ?_ rfl ?_ ?_
    rotate_left
    ·intro W hSw; have hcv := kC6.out W hSw; go_simp; (try with_reducible rfl)
    try simp only [Act.put, q1Z, q2Z, q3Z, q4Z, q5Z, q6Z]
    refine rdZ 1 rfl (fun K hK => ?_)
    go_simp
    refine hK.out _ _ (((Mod.refl none_ w6).alloc (.cells #[.int .i64 0] 3)).drew) (fun hHeld => ?_)
    clear hK K
    try simp only [Act.put, q1Z, q2Z, q3Z, q4Z, q5Z, q6Z]
    have kn := lnums_ok (w6.alloc (.cells #[.int .i64 0] 3)).drew (some ⟨w6.heap.size, 0, none⟩) 1 1 [0] (rdi_row w6 3 _ rfl [0]) (by omega) (fun x hx => by simp at hx; subst hx; exact in64_mk (by omega) (by omega))
    have hfl : [(0 : Int)].flatMap nb = nb 0 := by simp
    rw [hfl] at kn
    refine rdZ 2 rfl (fun K hK => ?_)
    go_simp
    (with_reducible refine kn.mono ?_); rintro e2 w7 ⟨A7, c7, rfl, ho7, hf7, hm7⟩; dsimp only
    have hM7 := zH ((((Mod.refl none_ w6).alloc (.cells #[.int .i64 0] 3)).drew).trans hm7)
    have z7 := zH (ByAt.of_ow ho7 (nb_small _))
    clear kn hm7 hf7 ho7 hfl
    go_wp2_with fail
    refine hK.out _ _ (hM7.out) (fun hHeld => ?_)
    clear hK K
    try simp only [Act.put, q1Z, q2Z, q3Z, q4Z, q5Z, q6Z]
    refine rdZ 5 rfl (fun K hK => ?_)
    go_simp
    (with_reducible refine (text_ok _ (orderB r.e.o) (by have := hgo.out; omega)).mono ?_); rintro e2 w8 ⟨A8, c8, rfl, ho8, hf8, hm8⟩; dsimp only
    have hM8 := zH (hM7.out.trans hm8)
    replace z7 := zH (z7.out.mod0 hm8)
    have htl := txtB_len (orderB r.e.o)
    have z8 := zH (ByAt.of_ow ho8 (by have := hgo.out; omega))
    clear hm8 hf8 ho8
    go_wp2_with fail
    refine hK.out _ _ (hM8.out) (fun hHeld => ?_)
    clear hK K
    try simp only [Act.put, q1Z, q2Z, q3Z, q4Z, q5Z, q6Z]
    have z5 := zH ((zb6.out.own.at_).mod0 hM8.out)
    have hbs : Hid (BsAt (w8.alloc (.cells #[.slice A5 n5 c5, .slice A7 (nb 0).length c7, .slice A8 (txtB (orderB r.e.o)).length c8] 126)) (some ⟨w8.heap.size, 0, none⟩) 3 [⟨A5, n5, c5⟩, ⟨A7, (nb 0).length, c7⟩, ⟨A8, (txtB (orderB r.e.o)).length, c8⟩] [headB r, nb 0, txtB (orderB r.e.o)]) :=
     zH (bsAt_all w8 126 [⟨A5, n5, c5⟩, ⟨A7, (nb 0).length, c7⟩, ⟨A8, (txtB (orderB r.e.o)).length, c8⟩] [headB r, nb 0, txtB (orderB r.e.o)] ⟨z5.out, z7.out, z8.out, trivial⟩)
    refine rdZ 6 rfl (fun K hK => ?_)
    go_simp
    refine hK.out _ _ (hM8.out.alloc _) (fun hHeld => ?_)
    clear hK K
    try simp only [Act.put, q1Z, q2Z, q3Z, q4Z, q5Z, q6Z]
    have hfl : [headB r, nb 0, txtB (orderB r.e.o)].flatten = headB r ++ (nb 0 ++ txtB (orderB r.e.o)) := by simp
    have kc := concatB_ok _ _ 3 3 _ _ hbs.out (by omega)
    rw [hfl] at kc
    have hle : (headB r ++ (nb 0 ++ txtB (orderB r.e.o))).length ≤ 600 := by
     have := nb_len 0
     have := hgo.out
     have := hg5.out
     simp only [List.length_append]; omega
    obtain ⟨lc, hlc⟩ : ∃ lc, lc = headB r ++ (nb 0 ++ txtB (orderB r.e.o)) := ⟨_, rfl⟩
    rw [← hlc] at kc hle
    replace hlc := zH hlc
    refine rdZ 7 rfl (fun K hK => ?_)
    go_simp
    (with_reducible refine kc.mono ?_); rintro e2 W ⟨Ab, cb, rfl, ho9, hf9, hm9⟩; dsimp only
    have hM9 := zH ((hM8.out.alloc _).trans hm9)
    have zb := zH (BufSt.new zb6.out.mod zb6.out.blk ho9 (hf9.later (hM8.out.alloc _).size) hM9.out (by omega))
    clear hm9 ho9 hf9 hbs kc hfl z5 z7 z8 htl
    go_wp2_with fail
    refine hK.out _ _ (hM9.out) (fun hHeld => ?_)
    clear hK K
    try simp only [Act.put, q1Z, q2Z, q3Z, q4Z, q5Z, q6Z]
    refine tkZ 8 ?_ rfl ?_ ?_
    rotate_left
    ·intro W hSw; (try dsimp only at hSw); go_simp; (try with_reducible rfl)
    try simp only [Act.put, q1Z, q2Z, q3Z, q4Z, q5Z, q6Z]
    refine wpAnyH_done (by kernel_rfl) ?_ _
    generalize hnb : lc.length = nb' at *
    rw [hlc.out] at zb
    replace hnb := zH hnb
    clear hHeld hM0 hM7 hM8 hM9 kC6 zo6 zb6
    have ss : W.cell? ⟨q, 14, none⟩ = some (.slice D.a D.n D.c) := zb.out.blk.cell_ rfl
    have kn := lnums_row W 3 W.heap.size rfl [(D.n : Int)] 1 rfl (by omega) (fun x hx => by simp at hx; subst hx; exact in64_mk (by omega) (by omega)) #[.int .i64 (D.n : Int)] rfl
    have hfl6 : [(D.n : Int)].flatMap nb = nb (D.n : Int) := by simp
    rw [hfl6] at kn
    clear hfl6
    go_wp2_with fail
    refine kn.mono ?_; rintro e w6 ⟨A6, c6, rfl, ho6, hf6, hm6⟩; dsimp only
    have zb6 := zH (zb.out.mod0 (((Mod.refl none_ W).alloc (.cells #[.int .i64 (D.n : Int)] 3)).trans hm6))
    have hl6 := nb_len (D.n : Int)
    generalize hg6 : (nb (D.n : Int)).length = n6 at *
    clear hm6 kn hf6 ss zb
    replace ho6 := zH ho6
    replace hg6 := zH hg6
    go_wp2_with (at_builtin; go_loud (refine app8 rfl (.tmp 57) (.tmp 63) rfl rfl zb6.out.own.ow rfl ho6.out.rd (by omega) ?_; intro A7 c7 w7 ho7 hm7 hA7; have zb7 := zH (zb6.out.app ho7 hm7 hA7 (by omega)); have s7 := zb7.out.blk.cell_ (i := 14) (v := .slice D.a D.n D.c) rfl; clear ho7 hm7 hA7))
    clear s7
    go_loopw [5, 69] (fun v x wr => ∃ j : Nat, x = .int .i64 j ∧ j ≤ D.n ∧ ∃ A n c, v = .slice A n c ∧ n ≤ 620 + j * 20 ∧ BufSt w 55 q #[.int .i64 r.bal, .int .i64 r.st, .int .i64 r.by_, .int .i64 r.e.o.c, .int .i64 r.e.o.s, .int .i64 r.e.o.k, .string (txt r.e.o.acct), .string (txt r.e.o.peer), .int .i64 r.e.o.sum, .slice L.a L.n L.c, .int .i64 r.e.o.per, .int .i64 r.e.o.hold, .string (txt r.e.o.note), .bool r.e.none, .slice D.a D.n D.c] wr A n c (((headB r ++ (nb 0 ++ txtB (orderB r.e.o))) ++ nb (D.n : Int)) ++ (r.e.deps.take j).flatMap isB)) (fun _ x _ => D.n - (intOf x).toNat)
    case atStart => exact ⟨0, rfl, by omega, A7, _, c7, rfl, by omega, by simpa using zb7.out⟩
    case round =>
     obtain ⟨j, rfl, hj, A, n, c, rfl, hnj, zb⟩ := hrel
     by_cases hlt : j < D.n
     ·obtain ⟨b, p, d, hDa, hdm, hdj, x1, x2⟩ := rdp_get (hrdD.out.mod0 zb.mod) hlt
      have hdi := hdk.out d hdm
      rw [hDa]
      have kn := lnums_row (wr.alloc (.cells #[.int .i64 d.r, .int .i64 d.n] 27)) 3 (wr.heap.size + 1) (by simp) [d.r, d.n] 2 rfl (by omega) (fun x hx => by simp at hx; rcases hx with rfl | rfl <;> exact in64_mk (by have := hdi.1; have := hdi.2; omega) (by have := hdi.1; have := hdi.2; omega)) #[.int .i64 d.r, .int .i64 d.n] rfl
      have hfl6 : [d.r, d.n].flatMap nb = isB d := by simp [isB]
      rw [hfl6] at kn
      clear hfl6
      replace zb := zH zb
      replace hdm := zH hdm
      replace hdj := zH hdj
      replace hdi := zH hdi
      go_wp2_with fail
      refine kn.mono ?_; rintro e w8 ⟨A8, c8, rfl, ho8, hf8, hm8⟩; dsimp only
      have zb8 := zH (zb.out.mod0 ((((Mod.refl none_ wr).alloc (.cells #[.int .i64 d.r, .int .i64 d.n] 27)).alloc (.cells #[.int .i64 d.r, .int .i64 d.n] 3)).trans hm8))
      have hl8 : (isB d).length ≤ 20 := by have := nb_len d.r; have := nb_len d.n; unfold isB; rw [List.length_append]; omega
      generalize hg8 : (isB d).length = n8 at *
      clear hm8 kn hf8 zb
      replace ho8 := zH ho8
      replace hg8 := zH hg8
      go_wp2_with (at_builtin; go_loud (refine app8 rfl (.tmp 73) (.tmp 79) rfl rfl zb8.out.own.ow rfl ho8.out.rd (by omega) ?_; intro A9 c9 w9 ho9 hm9 hA9; have zb9 := zH (zb8.out.app ho9 hm9 hA9 (by omega)); clear ho9 hm9 hA9))
      go_roundw
      case rel =>
       refine ⟨j + 1, by go_num, by omega, A9, _, c9, rfl, by omega, ?_⟩
       have e1 : (r.e.deps.take (j + 1)).flatMap isB = (r.e.deps.take j).flatMap isB ++ isB d := by rw [List.take_add_one, hdj.out]; simp
       rw [e1, ← List.append_assoc]
       have h9 := zb9.out
       rw [hDa] at h9
       exact h9
      case measure => simp [intOf]; omega
     ·have hjl : j = D.n := by omega
      subst hjl
      rw [List.take_of_length_le (by have := hdl.out; omega)] at zb
      have hlist : ((headB r ++ (nb 0 ++ txtB (orderB r.e.o))) ++ nb (D.n : Int)) ++ r.e.deps.flatMap isB = recB r := by rw [hrec.out, ← hdl.out]; simp
      rw [hlist] at zb
      have hlen := zb.len
      subst hlen
      clear hlist
      replace zb := zH zb
      generalize hlo : recB r = lo at *
      replace hlo := zH hlo
      go_wp2_with fail
      go_ret2
      exact .inl ⟨hr.out, A, c, rfl, zb.out.own.ow, zb.out.own.fr, zb.out.mod⟩
structure FillC (w : World) (t : TypeId) (z : Array Value) (g B q : Nat) (W : World) (cs : Array Value) (e : Nat) (l : List UInt8) : Prop where
 rd : Rdr W g B l e
 res : Blk W w.heap.size t z
 var : Blk W q t cs
 mod : Mod (only g) w W
 gw : w.heap.size ≠ g
 bw : w.heap.size ≠ B
 qw : w.heap.size < q
 qg : q ≠ g
 qb : q ≠ B
 bl : B < W.heap.size
section
variable {w : World} {t : TypeId} {z : Array Value} {g B q : Nat} {W W' : World} {cs : Array Value} {e e' : Nat} {l l' : List UInt8}
theorem Mod.join {w w1 w2 : World} {g : Nat} {F : Nat → Prop} (h : Mod (only g) w w1) (k : Mod F w1 w2) (hF : ∀ i, F i → w.heap.size ≤ i) : Mod (only g) w w2 :=
 h.then k fun i hi hk => by have := hF i hk; omega
theorem FillC.call (h : FillC w t z g B q W cs e l) (hm : Mod (only g) W W') (hr : Rdr W' g B l' e') : FillC w t z g B q W' cs e' l' :=
 ⟨hr, h.res.mod hm (fun hh => h.gw hh), h.var.mod hm (fun hh => h.qg hh), h.mod.trans hm, h.gw, h.bw, h.qw, h.qg, h.qb, Nat.lt_of_lt_of_le h.bl hm.size⟩
theorem FillC.mod0 (h : FillC w t z g B q W cs e l) (hm : Mod none_ W W') : FillC w t z g B q W' cs e l :=
 ⟨h.rd.mod0 hm, h.res.mod hm (fun hh => hh), h.var.mod hm (fun hh => hh), h.mod.trans (hm.any _), h.gw, h.bw, h.qw, h.qg, h.qb, Nat.lt_of_lt_of_le h.bl hm.size⟩
theorem FillC.alloc (h : FillC w t z g B q W cs e l) (o : Obj) : FillC w t z g B q (W.alloc o) cs e l := h.mod0 ((Mod.refl none_ W).alloc o)
theorem FillC.drew (h : FillC w t z g B q W cs e l) : FillC w t z g B q W.drew cs e l := h.mod0 (Mod.refl none_ W).drew
theorem FillC.own (h : FillC w t z g B q W cs e l) {F : Nat → Prop} (hm : Mod F W W') (h1 : ¬ F g) (h2 : ¬ F B) (h3 : ¬ F q) (h4 : ∀ k, F k → w.heap.size < k) : FillC w t z g B q W' cs e l :=
 ⟨h.rd.mod hm h1 h2, h.res.mod hm (fun hh => by have := h4 _ hh; omega), h.var.mod hm h3, h.mod.join hm (fun i hk => Nat.le_of_lt (h4 _ hk)), h.gw, h.bw, h.qw, h.qg, h.qb, Nat.lt_of_lt_of_le h.bl hm.size⟩
theorem FillC.turn (h : FillC w t z g B q W cs e l) {cs' : Array Value} (hm : Mod (only q) W W') (hv : Blk W' q t cs') : FillC w t z g B q W' cs' e l :=
 ⟨h.rd.mod hm (fun hh => h.qg hh.symm) (fun hh => h.qb hh.symm), h.res.mod hm (fun hh => by have : w.heap.size = q := hh; have := h.qw; omega), hv, h.mod.join hm (fun i hi => by have : i = q := hi; have := h.qw; omega), h.gw, h.bw, h.qw, h.qg, h.qb, Nat.lt_of_lt_of_le h.bl hm.size⟩
theorem FillC.store (h : FillC w t z g B q W cs e l) (o : Nat) (v : Value) : FillC w t z g B q (W.setCell ⟨q, o, none⟩ v) (cs.setIfInBounds o v) e l :=
 h.turn ((Mod.refl (only q) W).set_only o v) (h.var.set_ o v)
end
set_option maxRecDepth 512
theorem entry_size : (Tryz.prog.info? 53).map (·.size) = some 12 := by kernel_rfl
structure LegsSafe (N g q : Nat) (W : World) (o : Od) (L : SV) : Prop where
 m : OdM W o L
 safe : 0 < L.n → ∀ k, fp L.a k → k < N ∧ k ≠ g ∧ k ≠ q
theorem LegsSafe.mod {N g q : Nat} {W W' : World} {o : Od} {L : SV} (h : LegsSafe N g q W o L) {F : Nat → Prop} (hm : Mod F W W') (hF : ∀ k, F k → k = g ∨ k = q ∨ N ≤ k) : LegsSafe N g q W' o L :=
 ⟨⟨Rd.mod' h.m.rd hm (fun h0 k hk hf => by have := h.safe h0 k hk; have := hF k hf; omega), h.m.cap⟩, h.safe⟩
theorem LegsSafe.call {N g q : Nat} {W W' : World} {o : Od} {L : SV} (h : LegsSafe N g q W o L) (hm : Mod (only g) W W') : LegsSafe N g q W' o L := h.mod hm (fun k hk => .inl hk)
theorem LegsSafe.turn {N g q : Nat} {W W' : World} {o : Od} {L : SV} (h : LegsSafe N g q W o L) (hm : Mod (only q) W W') : LegsSafe N g q W' o L := h.mod hm (fun k hk => .inr (.inl hk))
theorem LegsSafe.mod0 {N g q : Nat} {W W' : World} {o : Od} {L : SV} (h : LegsSafe N g q W o L) (hm : Mod none_ W W') : LegsSafe N g q W' o L := h.mod hm (fun k hk => hk.elim)
theorem LegsSafe.zero (N g q : Nat) (W : World) : LegsSafe N g q W od0 ⟨none, 0, 0⟩ := ⟨od0_mem W, fun h => absurd h (by simp)⟩
theorem Rd.blt {w : World} {size n : Nat} {A : Option Addr} {xs : List Value} (h : Rd w size A n xs) (hn : 0 < n) (hs : 0 < size) : ∀ k, fp A k → k < w.heap.size := by
 rintro k ⟨a, e, rfl⟩
 obtain ⟨b, o, e', hc⟩ := h.form hn hs
 have hl : 0 < xs.length := by rw [h.1]; exact Nat.mul_pos hn hs
 have := hc 0 _ (List.getElem?_eq_getElem hl)
 rw [e] at e'
 cases e'
 exact World.block_lt_of_cell? w _ this
theorem LegsSafe.of {N g q : Nat} {w1 W : World} {o : Od} {L : SV} (h : OdM W o L) (hf : Fresh w1 L.a) (hg : g < w1.heap.size) (hq : q < w1.heap.size) (hN : W.heap.size ≤ N) : LegsSafe N g q W o L :=
 ⟨h, fun h0 k hk => by
  have h1 := h.rd.blt h0 (by omega) k hk
  obtain ⟨a, ha, rfl⟩ := hk
  have := hf a ha
  omega⟩
def RcPost (w : World) (r : Rc × Nat) (en : Ending) (w' : World) : Prop :=
 ∃ (x : Rc) (f : Nat) (L D : SV), r = (x, f) ∧ en = .returned (.tuple #[.agg #[.int .i64 x.i.r, .int .i64 x.i.n, .int .i64 x.bal, .int .i64 x.st, .int .i64 x.by_, .int .i64 x.e.o.c, .int .i64 x.e.o.s, .int .i64 x.e.o.k, .string (txt x.e.o.acct), .string (txt x.e.o.peer), .int .i64 x.e.o.sum, .slice L.a L.n L.c, .int .i64 x.e.o.per, .int .i64 x.e.o.hold, .string (txt x.e.o.note), .bool x.e.none, .slice D.a D.n D.c], .int .i64 (f : Int)]) ∧ EnM w' x.e L D ∧ Fresh w L.a ∧ Fresh w D.a ∧ Mod none_ w w'
theorem RcPost.zero {w w' : World} {r : Rc × Nat} {en : Ending} (h : r = (rc0, 3)) (he : en = .returned (.tuple #[.agg #[.int .i64 0, .int .i64 0, .int .i64 0, .int .i64 0, .int .i64 0, .int .i64 0, .int .i64 0, .int .i64 0, .string ⟨#[]⟩, .string ⟨#[]⟩, .int .i64 0, .slice none 0 0, .int .i64 0, .int .i64 0, .string ⟨#[]⟩, .bool false, .slice none 0 0], .int .i64 3])) (hm : Mod none_ w w') : RcPost w r en w' :=
 ⟨rc0, 3, ⟨none, 0, 0⟩, ⟨none, 0, 0⟩, h, he, en0_mem _, (fun a ha => by cases ha), (fun a ha => by cases ha), hm⟩
structure EndSt (w : World) (t : TypeId) (z : Array Value) (g B q : Nat) (W : World) (cs : Array Value) : Prop where
 res : Blk W w.heap.size t z
 var : Blk W q t cs
 mod : Mod (only g) w W
 gw : w.heap.size ≠ g
 qg : q ≠ g
theorem FillC.after {w : World} {t : TypeId} {z : Array Value} {g B q : Nat} {W W' : World} {cs : Array Value} {e : Nat} {l : List UInt8} (h : FillC w t z g B q W cs e l) (hm : Mod (only g) W W') : EndSt w t z g B q W' cs :=
 ⟨h.res.mod hm (fun hh => h.gw hh), h.var.mod hm (fun hh => h.qg hh), h.mod.trans hm, h.gw, h.qg⟩
theorem EnM.safe {W W' : World} {v : En} {L D : SV} (h : EnM W v L D) {P : Nat → Prop} (hm : Mod P W W') (hL : ∀ a, L.a = some a → ¬ P a.block) (hD : ∀ a, D.a = some a → ¬ P a.block) : EnM W' v L D :=
 ⟨⟨Rd.mod h.od.rd hm (fun k hk => by obtain ⟨a, ha, rfl⟩ := hk; exact hL a ha), h.od.cap⟩, Rd.mod h.rd hm (fun k hk => by obtain ⟨a, ha, rfl⟩ := hk; exact hD a ha), h.cap⟩
theorem iss_take (ls : List Is) (k : Nat) : (iss ls).take (k * 2) = iss (ls.take k) := by
 induction ls generalizing k with
 | nil => simp [iss]
 | cons l ls ih =>
  cases k with
  | zero => simp [iss]
  | succ k =>
   show (_ :: _ :: iss ls).take ((k + 1) * 2) = _ :: _ :: iss (ls.take k)
   rw [show (k + 1) * 2 = k * 2 + 1 + 1 by omega, List.take_succ_cons, List.take_succ_cons, ih]
end Go.Proofs.YtfkfiokkjjnhiaaGreat
namespace Go.Proofs.YtfkfiokkjjnhiaaGreat
def step1 (h : Nat) : Nat := (h / 2) ^^^ (if h % 2 = 1 then 3988292384 else 0)
def stepN : Nat → Nat → Nat
 | 0, h => h
 | n + 1, h => step1 (stepN n h)
def tabN (i : Nat) : Nat := stepN 8 i
def crcStep (h : Nat) (b : UInt8) : Nat := (h / 256) ^^^ tabN ((h % 256) ^^^ b.toNat)
def crcFold (l : List UInt8) : Nat := l.foldl crcStep 4294967295
def crc (l : List UInt8) : Nat := 4294967295 - crcFold l
theorem xor_div2 (a b : Nat) : (a ^^^ b) / 2 = (a / 2) ^^^ (b / 2) := by
 have := Nat.shiftRight_xor_distrib (a := a) (b := b) (i := 1)
 simpa [Nat.shiftRight_eq_div_pow] using this
theorem xor_mod2 (a b : Nat) : (a ^^^ b) % 2 = (a % 2) ^^^ (b % 2) := by
 have := Nat.xor_mod_two_pow (a := a) (b := b) (n := 1)
 simpa using this
theorem step1_lin (a b : Nat) : step1 (a ^^^ b) = step1 a ^^^ step1 b := by
 unfold step1
 rw [xor_div2, xor_mod2]
 rcases Nat.mod_two_eq_zero_or_one a with h | h <;> rcases Nat.mod_two_eq_zero_or_one b with h' | h' <;> simp [h, h']
 ·rw [Nat.xor_assoc]
 ·rw [Nat.xor_assoc, Nat.xor_assoc, Nat.xor_comm 3988292384 (b / 2)]
 ·rw [Nat.xor_assoc, Nat.xor_comm 3988292384, Nat.xor_assoc, Nat.xor_self, Nat.xor_zero]
theorem stepN_lin (n : Nat) : ∀ a b, stepN n (a ^^^ b) = stepN n a ^^^ stepN n b := by
 induction n with
 | zero => intro a b; rfl
 | succ n ih => intro a b; simp only [stepN, ih, step1_lin]
theorem step1_lt (h : Nat) (hh : h < 4294967296) : step1 h < 4294967296 := by
 unfold step1
 have : (h / 2) ^^^ (if h % 2 = 1 then 3988292384 else 0) < 2 ^ 32 := Nat.xor_lt_two_pow (by omega) (by split <;> omega)
 exact this
theorem stepN_lt (n : Nat) : ∀ h, h < 4294967296 → stepN n h < 4294967296 := by
 induction n with
 | zero => intro h hh; exact hh
 | succ n ih => intro h hh; exact step1_lt _ (ih h hh)
theorem step1_even (h : Nat) : step1 (h * 2) = h := by
 unfold step1
 rw [if_neg (by omega), Nat.xor_zero]
 omega
theorem stepN_shift (n : Nat) : ∀ h, stepN n (h * 2 ^ n) = h := by
 induction n with
 | zero => intro h; simp [stepN]
 | succ n ih =>
  intro h
  have e : h * 2 ^ (n + 1) = (h * 2) * 2 ^ n := by rw [Nat.pow_succ]; rw [Nat.mul_assoc, Nat.mul_comm 2]
  rw [stepN, e, ih, step1_even]
theorem tabN_lt (i : Nat) (h : i < 256) : tabN i < 4294967296 := stepN_lt 8 i (by omega)
theorem xor_lt8 (a b : Nat) (ha : a < 256) (hb : b < 256) : a ^^^ b < 256 := Nat.xor_lt_two_pow (n := 8) ha hb
theorem split256 (h : Nat) : h = (h / 256 * 2 ^ 8) ^^^ (h % 256) := by
 have h1 : h / 256 * 2 ^ 8 ^^^ h % 256 = (h / 256 * 2 ^ 8) ||| (h % 256) := by
  apply Nat.eq_of_testBit_eq
  intro i
  rw [Nat.testBit_xor, Nat.testBit_or, Nat.mul_comm, Nat.testBit_two_pow_mul]
  by_cases hi : 8 ≤ i
  ·have : (h % 256).testBit i = false := Nat.testBit_lt_two_pow (Nat.lt_of_lt_of_le (Nat.mod_lt _ (by omega)) (Nat.pow_le_pow_right (n := 2) (by omega) hi : 2 ^ 8 ≤ 2 ^ i))
   simp [this]
  ·simp [hi]
 rw [h1, or_add _ _ 8 (by omega)]
 omega
theorem crcStep_eq (h : Nat) (b : UInt8) : crcStep h b = stepN 8 (h ^^^ b.toNat) := by
 unfold crcStep tabN
 conv => rhs; rw [split256 h, Nat.xor_assoc, stepN_lin, stepN_shift]
theorem crcStep_lt (h : Nat) (b : UInt8) (hh : h < 4294967296) : crcStep h b < 4294967296 := by
 rw [crcStep_eq]
 exact stepN_lt 8 _ (Nat.xor_lt_two_pow (n := 32) hh (by have := b.toNat_lt; omega))
theorem foldl_lt : ∀ (l : List UInt8) (h : Nat), h < 4294967296 → l.foldl crcStep h < 4294967296 := by
 intro l
 induction l with
 | nil => intro h hh; exact hh
 | cons b l ih => intro h hh; exact ih _ (crcStep_lt h b hh)
theorem crcFold_lt (l : List UInt8) : crcFold l < 4294967296 := foldl_lt l _ (by omega)
theorem crc_lt (l : List UInt8) : crc l < 4294967296 := by unfold crc; omega
theorem crcFold_snoc (l : List UInt8) (b : UInt8) : crcFold (l ++ [b]) = crcStep (crcFold l) b := by simp [crcFold]
end Go.Proofs.YtfkfiokkjjnhiaaGreat
