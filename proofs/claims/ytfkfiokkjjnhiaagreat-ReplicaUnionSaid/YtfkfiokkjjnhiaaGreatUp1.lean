import Derived.WalkKit
import Derived.WalkSpells
import Derived.WalkLawsBesides
import Derived.Lib.Hide
import Derived.Deep.Draws
import Derived.Deep.AppendLies
import Derived.Maps.AppendAt
import Derived.BigQuiet
import Derived.Lib.SlBytesConst
import Derived.Lib.MinMax
import Derived.Test.YtfkfiokkjjnhiaaGreatRows
import Derived.Laws.StructEq
import Derived.Laws.BitsAllLaws
import Derived.Laws.BitsLemmas
import Derived.Deep.RegionHeld
import Derived.KernelRfl
set_option linter.unusedVariables false
set_option linter.unusedSimpArgs false
set_option maxHeartbeats 16000000
namespace Go.Proofs.YtfkfiokkjjnhiaaGreat
open Go.RowKit
theorem q1Z {α : Type _} {xs : List α} {i : Nat} (h : i < xs.toArray.size) : xs.toArray[i] = xs[i]'(by simpa using h) := rfl
theorem q2Z {α : Type _} (a : α) (l : List α) (h : 0 < (a :: l).length) : (a :: l)[0] = a := rfl
theorem q3Z {α : Type _} (a : α) (l : List α) (i : Nat) (h : i + 1 < (a :: l).length) : (a :: l)[i+1] = l[i]'(by simpa using h) := rfl
theorem q4Z {α : Type _} (l : List α) (i : Nat) (a : α) : l.toArray.setIfInBounds i a = (l.set i a).toArray := List.setIfInBounds_toArray ..
theorem q5Z {α : Type _} (x : α) (xs : List α) (b : α) : (x :: xs).set 0 b = b :: xs := rfl
theorem q6Z {α : Type _} (x : α) (xs : List α) (n : Nat) (b : α) : (x :: xs).set (n + 1) b = x :: xs.set n b := rfl
theorem zH {p : Prop} (h : p) : Hid p := h
section
variable {P : Program} {ops : Array Oper} {Q : Exit → Act → World → Prop} {md : Region.Mode} {S : World → Prop}
theorem tkZ (i : Nat) {oi : Oper} (v : Value) {fuel : Nat} {listed : Array Bool} {a : Act} {w : World} (hi : ops[i]? = some oi) (hy : ∀ w, S w → (execOp a.eval oi).run P w = .ok (.value v) w)
  (h : wpAnyH P md ops Q S fuel (listed.setIfInBounds i true) (a.put oi.dst v) w) (hs : Region.noSelect ops = true := by kernel_rfl) (hf : Region.free md ops listed i = true := by kernel_rfl) (hr : (Region.ready md ops listed).contains i = true := by kernel_rfl)
  (hQ : ∀ c a w, Q (.panic c) (a.put oi.dst v) w → Q (.panic c) a w := by exact fun _ _ _ h => h) (hw : Region.wanted oi (yielded ops a.tmps) = true := by rfl) (hS : S w := by assumption) : wpAnyH P md ops Q S (fuel + 1) listed a w :=
  wpAnyH_take hi hs hf hr hQ (Or.inl ⟨hw, hy⟩) hS h
theorem rdZ (i : Nat) {fuel : Nat} {listed : Array Bool} {a : Act} {w : World} {o : Oper} (ho : ops[i]? = some o)
  (h : ∀ K' : Act → World → Prop, Shut (∀ a w, S w → (S w → wpAnyH P md ops Q S fuel (listed.setIfInBounds i true) a w) → K' a w) → if Region.wanted o (yielded ops a.tmps) = true then Oper.wp P o a w K' Q else K' (a.put o.dst undef) w)
  (hr : Region.ready md ops listed = [i] := by kernel_rfl) : wpAnyH P md ops Q S (fuel + 1) listed a w := wpAnyH_ready hr (by simp) (AllReadyH.cons ho h AllReadyH.nil)
end
end Go.Proofs.YtfkfiokkjjnhiaaGreat
namespace Go.Proofs.YtfkfiokkjjnhiaaGreat
open Go.RowKit
structure Mod (F : Nat → Prop) (w w' : World) : Prop where
 os : w'.os = w.os
 tape : w'.tape = w.tape
 output : w'.output = w.output
 size : w.heap.size ≤ w'.heap.size
 block : ∀ k, k < w.heap.size → ¬ F k → w'.heap[k]? = w.heap[k]?
def none_ : Nat → Prop := fun _ => False
def fp (A : Option Addr) : Nat → Prop := fun k => ∃ a, A = some a ∧ a.block = k
def Fresh (w : World) (A : Option Addr) : Prop := ∀ a, A = some a → w.heap.size ≤ a.block
section
variable {F G : Nat → Prop} {w w' w'' : World}
theorem Mod.refl (F : Nat → Prop) (w : World) : Mod F w w := ⟨rfl, rfl, rfl, Nat.le_refl _, fun _ _ _ => rfl⟩
theorem Mod.trans (h : Mod F w w') (k : Mod F w' w'') : Mod F w w'' :=
 ⟨k.os.trans h.os, k.tape.trans h.tape, k.output.trans h.output, Nat.le_trans h.size k.size, fun i hi hf => (k.block i (Nat.lt_of_lt_of_le hi h.size) hf).trans (h.block i hi hf)⟩
theorem Mod.then (h : Mod F w w') (k : Mod G w' w'') (hs : ∀ i, i < w.heap.size → G i → F i) : Mod F w w'' :=
 ⟨k.os.trans h.os, k.tape.trans h.tape, k.output.trans h.output, Nat.le_trans h.size k.size,
  fun i hi hf => (k.block i (Nat.lt_of_lt_of_le hi h.size) (fun hg => hf (hs i hi hg))).trans (h.block i hi hf)⟩
theorem Mod.mono (h : Mod F w w') (hs : ∀ i, F i → G i) : Mod G w w' := ⟨h.os, h.tape, h.output, h.size, fun i hi hf => h.block i hi (fun hg => hf (hs i hg))⟩
theorem Mod.any (h : Mod none_ w w') (G : Nat → Prop) : Mod G w w' := h.mono fun _ hh => hh.elim
theorem Mod.drew (h : Mod F w w') : Mod F w w'.drew := ⟨h.os, h.tape, h.output, h.size, h.block⟩
theorem Mod.drewN (h : Mod F w w') (n : Nat) : Mod F w (w'.drewN n) := ⟨h.os, h.tape, h.output, h.size, h.block⟩
theorem Mod.alloc (h : Mod F w w') (o : Obj) : Mod F w (w'.alloc o) :=
 ⟨h.os, h.tape, h.output, Nat.le_trans h.size (by simp), fun i hi hf => (Below.heap_alloc w' o i (Nat.lt_of_lt_of_le hi h.size)).trans (h.block i hi hf)⟩
theorem Mod.setCell (h : Mod F w w') {p : Addr} (hp : F p.block ∨ w.heap.size ≤ p.block) (u : Value) : Mod F w (w'.setCell p u) :=
 ⟨h.os, h.tape, h.output, by simpa [World.setCell] using h.size, fun i hi hf => (Below.heap_setCell w' p u i (by
  rintro rfl
  rcases hp with hp | hp
  ·exact hf hp
  ·omega)).trans (h.block i hi hf)⟩
theorem Mod.below (h : Mod F w w') {B : Nat} (hB : B ≤ w.heap.size) (hF : ∀ k, F k → B ≤ k) : Below B w w' :=
 ⟨h.os, h.tape, h.output, h.size, fun k hk => h.block k (by omega) (fun hf => by have := hF k hf; omega)⟩
theorem Mod.below0 (h : Mod none_ w w') : Below w.heap.size w w' := h.below (Nat.le_refl _) fun _ hh => hh.elim
theorem Mod.of_below (h : Below w.heap.size w w') : Mod none_ w w' := ⟨h.os, h.tape, h.output, h.size, fun k hk _ => h.block k hk⟩
theorem Mod.cell (h : Mod F w w') {a : Addr} (hlt : a.block < w.heap.size) (hf : ¬ F a.block) : w'.cell? a = w.cell? a := World.cell?_of_block (w := w) (h.block a.block hlt hf)
theorem Mod.frozen (h : Mod F w w') {a : Addr} (hlt : a.block < w.heap.size) (hf : ¬ F a.block) : w'.frozen? a = w.frozen? a := World.frozen?_of_block (w := w) (h.block a.block hlt hf)
theorem Mod.cell_some (h : Mod F w w') {a : Addr} {v : Value} (hc : w.cell? a = some v) (hf : ¬ F a.block) : w'.cell? a = some v := (h.cell (World.block_lt_of_cell? w a hc) hf).trans hc
theorem Mod.of_grown {row : Option Nat} (h : w.grownBy w' row) : Mod (fun k => row = some k) w w' :=
 ⟨h.os, h.tape, h.output, h.size, fun k hk hn => h.block k hk (fun e => hn e.symm)⟩
end
def Blk (w : World) (g : Nat) (t : TypeId) (cs : Array Value) : Prop := w.heap[g]? = some (.cells cs t (0, 0))
section
variable {F : Nat → Prop} {w w' : World} {g : Nat} {t : TypeId} {cs : Array Value}
theorem Blk.lt (h : Blk w g t cs) : g < w.heap.size := by
 rcases Nat.lt_or_ge g w.heap.size with hlt | hge
 ·exact hlt
 ·unfold Blk at h; rw [Array.getElem?_eq_none hge] at h; cases h
theorem Blk.cell (h : Blk w g t cs) (i : Nat) : w.cell? ⟨g, i, none⟩ = cs[i]? := cell_of_row w g i cs t (0, 0) h
theorem Blk.cell_ {i : Nat} {v : Value} (h : Blk w g t cs) (hv : cs[i]? = some v) : w.cell? ⟨g, i, none⟩ = some v := (h.cell i).trans hv
theorem Blk.frozen (h : Blk w g t cs) (i : Nat) : w.frozen? ⟨g, i, none⟩ = false := by
 unfold Blk at h
 simp [World.frozen?, h]
theorem Blk.new (w : World) (t : TypeId) (cs : Array Value) : Blk (w.alloc (.cells cs t)) w.heap.size t cs := heap_alloc_new w _
theorem Blk.drew (h : Blk w g t cs) : Blk w.drew g t cs := h
theorem Blk.drewN (h : Blk w g t cs) (n : Nat) : Blk (w.drewN n) g t cs := h
theorem Blk.alloc (h : Blk w g t cs) (o : Obj) : Blk (w.alloc o) g t cs := (Below.heap_alloc w o g h.lt).trans h
theorem Blk.set_ (h : Blk w g t cs) (i : Nat) (u : Value) : Blk (w.setCell ⟨g, i, none⟩ u) g t (cs.setIfInBounds i u) := by
 unfold Blk at h ⊢
 simp [World.setCell, Array.getElem?_modify, h]
theorem Blk.far (h : Blk w g t cs) {p : Addr} (hp : g ≠ p.block) (u : Value) : Blk (w.setCell p u) g t cs := (Below.heap_setCell w p u g hp).trans h
theorem Blk.mod (h : Blk w g t cs) (hm : Mod F w w') (hg : ¬ F g) : Blk w' g t cs := (hm.block g h.lt hg).trans h
theorem Blk.ne_ {g' : Nat} {t' : TypeId} {cs' : Array Value} (h : Blk w g t cs) (h' : Blk w g' t' cs') (hne : t ≠ t') : g ≠ g' := by
 rintro rfl
 unfold Blk at h h'
 rw [h] at h'
 injection h' with h'
 injection h' with _ ht
 exact hne ht
end
theorem block_of_add (a : Addr) (n : Nat) : (a.add n).block = a.block := by unfold Addr.add; split <;> rfl
theorem add_of_add (a : Addr) (i j : Nat) : (a.add i).add j = a.add (i + j) := by
 unfold Addr.add
 by_cases hi : i = 0 <;> by_cases hj : j = 0 <;> simp [hi, hj, Nat.add_assoc]
theorem add_zero_ (a : Addr) : a.add 0 = a := rfl
theorem add_lit (g j : Nat) : (⟨g, 0, none⟩ : Addr).add j = ⟨g, j, none⟩ := by unfold Addr.add; split <;> simp_all
def Rd (w : World) (size : Nat) (A : Option Addr) (n : Nat) (xs : List Value) : Prop :=
 xs.length = n * size ∧ (0 < n → ∃ ad, A = some ad ∧ ∀ j u, xs[j]? = some u → w.cell? (ad.add j) = some u)
section
variable {F : Nat → Prop} {w w' : World} {size n : Nat} {A : Option Addr} {xs : List Value}
theorem Rd.none_ : Rd w size A 0 [] := ⟨by simp, fun h => absurd h (by omega)⟩
theorem Rd.at_ {k : Nat} (h : Rd w 1 A n xs) (hk : k < n) : ∃ ad u, A = some ad ∧ xs[k]? = some u ∧ w.cell? (ad.add k) = some u := by
 obtain ⟨ad, e, hc⟩ := h.2 (by omega)
 have hl : k < xs.length := by have := h.1; omega
 exact ⟨ad, xs[k], e, List.getElem?_eq_getElem hl, hc k _ (List.getElem?_eq_getElem hl)⟩
theorem Rd.mod (h : Rd w size A n xs) (hm : Mod F w w') (hF : ∀ k, fp A k → ¬ F k) : Rd w' size A n xs :=
 ⟨h.1, fun hn => by
  obtain ⟨ad, e, hc⟩ := h.2 hn
  exact ⟨ad, e, fun j u hu => hm.cell_some (hc j u hu) (by rw [block_of_add]; exact hF _ ⟨ad, e, rfl⟩)⟩⟩
theorem Rd.mod0 (h : Rd w size A n xs) (hm : Mod Go.Proofs.YtfkfiokkjjnhiaaGreat.none_ w w') : Rd w' size A n xs := h.mod hm fun _ _ hh => hh
theorem Rd.drewN (h : Rd w size A n xs) (k : Nat) : Rd (w.drewN k) size A n xs := h
theorem Rd.alloc (h : Rd w size A n xs) (o : Obj) : Rd (w.alloc o) size A n xs := h.mod0 ((Mod.refl _ w).alloc o)
theorem Rd.drop_ (h : Rd w size A n xs) {k cap : Nat} (hk : k ≤ n) (hc : n ≤ cap) :
  Rd w size (if cap = k then A else A.map (·.add (k * size))) (n - k) (xs.drop (k * size)) := by
 refine ⟨by rw [List.length_drop, h.1, Nat.sub_mul], fun hn => ?_⟩
 obtain ⟨ad, rfl, hcell⟩ := h.2 (by omega)
 rw [if_neg (by omega)]
 refine ⟨ad.add (k * size), rfl, fun j u hu => ?_⟩
 rw [add_of_add]
 exact hcell _ u (by rw [← hu, List.getElem?_drop])
theorem Rd.take_ (h : Rd w size A n xs) {k : Nat} (hk : k ≤ n) : Rd w size A k (xs.take (k * size)) := by
 refine ⟨by rw [List.length_take, h.1]; exact Nat.min_eq_left (Nat.mul_le_mul_right _ hk), fun hn => ?_⟩
 obtain ⟨ad, rfl, hcell⟩ := h.2 (by omega)
 refine ⟨ad, rfl, fun j u hu => hcell j u ?_⟩
 rw [List.getElem?_take] at hu
 split at hu
 ·exact hu
 ·cases hu
theorem Rd.form (h : Rd w size A n xs) (hn : 0 < n) (hs : 0 < size) : ∃ b o, A = some ⟨b, o, none⟩ ∧ ∀ j u, xs[j]? = some u → w.cell? ⟨b, o + j, none⟩ = some u := by
 obtain ⟨ad, rfl, hc⟩ := h.2 hn
 have hl : 0 < xs.length := by rw [h.1]; exact Nat.mul_pos hn hs
 have h0 := hc 0 _ (List.getElem?_eq_getElem hl)
 rw [add_zero_] at h0
 obtain ⟨b, o, sp⟩ := ad
 cases sp with
 | some x => simp [World.cell?] at h0; split at h0 <;> simp at h0
 | none =>
  refine ⟨b, o, rfl, fun j u hu => ?_⟩
  have := hc j u hu
  have e : (⟨b, o, none⟩ : Addr).add j = ⟨b, o + j, none⟩ := by unfold Addr.add; split <;> simp_all
  rwa [e] at this
theorem Rd.lt (h : Rd w 1 A n xs) (hn : 0 < n) : ∀ k, fp A k → k < w.heap.size := by
 rintro k ⟨a, e, rfl⟩
 obtain ⟨ad, u, e', _, hc⟩ := h.at_ hn
 rw [e] at e'
 injection e' with e'
 subst e'
 exact World.block_lt_of_cell? w _ hc
end
theorem Rd.mod' {F : Nat → Prop} {w w' : World} {size n : Nat} {A : Option Addr} {xs : List Value} (h : Rd w size A n xs) (hm : Mod F w w') (hF : 0 < n → ∀ k, fp A k → ¬ F k) : Rd w' size A n xs :=
 ⟨h.1, fun hn => by
  obtain ⟨ad, e, hc⟩ := h.2 hn
  exact ⟨ad, e, fun j u hu => hm.cell_some (hc j u hu) (by rw [block_of_add]; exact hF hn _ ⟨ad, e, rfl⟩)⟩⟩
def Ow (w : World) (e : TypeId) (size : Nat) (A : Option Addr) (n c : Nat) (xs : List Value) : Prop :=
 xs.length = n * size ∧ n ≤ c ∧ c ≤ maxLen ∧
  ((A = none ∧ n = 0 ∧ c = 0) ∨ ∃ g cur, A = some ⟨g, 0, none⟩ ∧ Blk w g e cur ∧ c * size ≤ cur.size ∧ cur.toList.take (n * size) = xs)
section
variable {F : Nat → Prop} {w w' : World} {e : TypeId} {size n c : Nat} {A : Option Addr} {xs : List Value}
theorem Ow.nil (w : World) (e : TypeId) (size : Nat) : Ow w e size none 0 0 [] := ⟨by simp, Nat.le_refl _, Nat.zero_le _, .inl ⟨rfl, rfl, rfl⟩⟩
theorem Ow.mod (h : Ow w e size A n c xs) (hm : Mod F w w') (hF : ∀ k, fp A k → ¬ F k) : Ow w' e size A n c xs := by
 obtain ⟨h1, h2, h3, h4⟩ := h
 refine ⟨h1, h2, h3, ?_⟩
 rcases h4 with h4 | ⟨g, cur, rfl, hb, h5⟩
 ·exact .inl h4
 ·exact .inr ⟨g, cur, rfl, hb.mod hm (hF g ⟨_, rfl, rfl⟩), h5⟩
theorem Ow.mod0 (h : Ow w e size A n c xs) (hm : Mod none_ w w') : Ow w' e size A n c xs := h.mod hm fun _ _ hh => hh
theorem Ow.rd (h : Ow w e size A n c xs) : Rd w size A n xs := by
 obtain ⟨h1, h2, _, h4⟩ := h
 refine ⟨h1, fun hn => ?_⟩
 rcases h4 with ⟨_, h5, _⟩ | ⟨g, cur, rfl, hb, h5, h6⟩
 ·omega
 ·refine ⟨_, rfl, fun j u hu => ?_⟩
  rw [add_lit, hb.cell]
  rw [← h6, List.getElem?_take] at hu
  split at hu
  ·simpa using hu
  ·cases hu
theorem Ow.lt (h : Ow w e size A n c xs) : ∀ k, fp A k → k < w.heap.size := by
 rintro k ⟨a, ha, rfl⟩
 rcases h.2.2.2 with ⟨h4, _⟩ | ⟨g, cur, h4, hb, _⟩
 ·rw [h4] at ha; cases ha
 ·rw [h4] at ha; cases ha; exact hb.lt
theorem Ow.ne_blk (h : Ow w e size A n c xs) {g : Nat} {t : TypeId} {cs : Array Value} (hb : Blk w g t cs) (hne : e ≠ t) : ¬ fp A g := by
 rintro ⟨a, ha, rfl⟩
 rcases h.2.2.2 with ⟨h4, _⟩ | ⟨g, cur, h4, hb', _⟩
 ·rw [h4] at ha; cases ha
 ·rw [h4] at ha; cases ha; exact hb'.ne_ hb hne rfl
theorem Ow.take_ (h : Ow w e size A n c xs) {k : Nat} (hk : k ≤ n) : Ow w e size A k c (xs.take (k * size)) := by
 obtain ⟨h1, h2, h3, h4⟩ := h
 refine ⟨by rw [List.length_take, h1]; exact Nat.min_eq_left (Nat.mul_le_mul_right _ hk), by omega, h3, ?_⟩
 rcases h4 with ⟨rfl, rfl, rfl⟩ | ⟨g, cur, rfl, hb, h5, h6⟩
 ·exact .inl ⟨rfl, by omega, rfl⟩
 ·refine .inr ⟨g, cur, rfl, hb, h5, ?_⟩
  rw [← h6, List.take_take, Nat.min_eq_left (Nat.mul_le_mul_right _ hk)]
theorem Ow.clip (h : Ow w e size A n c xs) {c' : Nat} (h1 : n ≤ c') (h2 : c' ≤ c) : Ow w e size A n c' xs := by
 obtain ⟨a1, a2, a3, a4⟩ := h
 refine ⟨a1, h1, Nat.le_trans h2 a3, ?_⟩
 rcases a4 with ⟨rfl, rfl, rfl⟩ | ⟨g, cur, rfl, hb, h5, h6⟩
 ·exact .inl ⟨rfl, rfl, by omega⟩
 ·exact .inr ⟨g, cur, rfl, hb, Nat.le_trans (Nat.mul_le_mul_right _ h2) h5, h6⟩
theorem Ow.new (w : World) (e : TypeId) (size n : Nat) (cs : Array Value) (hn : n ≤ maxLen) (hs : cs.size = n * size) : Ow (w.alloc (.cells cs e)) e size (some ⟨w.heap.size, 0, none⟩) n n cs.toList :=
 ⟨by simpa using hs, Nat.le_refl _, hn, .inr ⟨_, cs, rfl, Blk.new w e cs, by omega, by rw [← hs, ← Array.length_toList, List.take_length]⟩⟩
theorem Ow.form (h : Ow w e size A n c xs) (hn : 0 < n) : ∃ g cur, A = some ⟨g, 0, none⟩ ∧ Blk w g e cur ∧ c * size ≤ cur.size ∧ cur.toList.take (n * size) = xs := by
 rcases h.2.2.2 with ⟨_, h0, _⟩ | ⟨g, cur, h4, hb, h5⟩
 ·omega
 ·exact ⟨g, cur, h4, hb, h5⟩
theorem Ow.cell_ (h : Ow w e size A n c xs) {g : Nat} (hA : A = some ⟨g, 0, none⟩) (j : Nat) (hj : j < n * size) : w.cell? ⟨g, j, none⟩ = xs[j]? := by
 rcases h.2.2.2 with ⟨h4, _⟩ | ⟨g', cur, h4, hb, h5, h6⟩
 ·rw [hA] at h4; cases h4
 ·rw [hA] at h4; cases h4
  rw [hb.cell, ← h6, List.getElem?_take, if_pos hj]; simp
theorem Ow.free (h : Ow w e size A n c xs) {g : Nat} (hA : A = some ⟨g, 0, none⟩) (j : Nat) : w.frozen? ⟨g, j, none⟩ = false := by
 rcases h.2.2.2 with ⟨h4, _⟩ | ⟨g', cur, h4, hb, h5, h6⟩
 ·rw [hA] at h4; cases h4
 ·rw [hA] at h4; cases h4; exact hb.frozen j
theorem Ow.set_ (h : Ow w e size A n c xs) {g : Nat} (hA : A = some ⟨g, 0, none⟩) (j : Nat) (u : Value) : Ow (w.setCell ⟨g, j, none⟩ u) e size A n c (xs.set j u) := by
 obtain ⟨h1, h2, h3, h4⟩ := h
 refine ⟨by simpa using h1, h2, h3, ?_⟩
 rcases h4 with ⟨h4, _⟩ | ⟨g', cur, h4, hb, h5, h6⟩
 ·rw [hA] at h4; cases h4
 ·rw [hA] at h4; cases h4
  refine .inr ⟨g, _, hA, hb.set_ j u, by simpa using h5, ?_⟩
  rw [← h6]
  apply List.ext_getElem?
  intro i
  simp only [List.getElem?_take, List.getElem?_set, Array.toList_setIfInBounds, List.length_take]
  by_cases hi : i < n * size
  ·simp only [hi, if_true]
   by_cases hj : j = i
   ·subst hj
    have hl : j < cur.size := by
     have := Nat.mul_le_mul_right size h2
     omega
    simp [hl]; omega
   ·simp [hj]
  ·simp only [hi, if_false]
   by_cases hj : j = i
   ·subst hj; simp; omega
   ·simp [hj]
end
section
variable {P : Program}
theorem run_append_ow (w : World) (t ty e : TypeId) (i : TypeInfo) (z : Value) (size bytes : Nat) (ht : P.underlying t = some (.slice e)) (hi : P.info? e = some i) (hz : i.zero = some z)
  (hsize : i.size = size) (hby : i.bytes = bytes) (hzs : z.cells.size = size) (hsz : 0 < size)
  (A : Option Addr) (n c : Nat) (xs : List Value) (hown : Ow w e size A n c xs)
  (S : Option Addr) (m d : Nat) (news : List Value) (hr : Rd w size S m news) (h1 : ∀ u ∈ news, u.oneCell' = true)
  (hbytes : (n + m) * bytes ≤ 140737488355328) (h63 : n + m ≤ 9223372036854775807) :
  ∃ A' c' w', (Builtin.append_ #[t, t] ty #[.slice A n c, .slice S m d]).run P w = .ok (.slice A' (n + m) c') w' ∧ Ow w' e size A' (n + m) c' (xs ++ news) ∧ Mod (fp A) w w' ∧
   (A' = A ∨ A' = some ⟨w.heap.size, 0, none⟩) := by
 subst hsize
 subst hby
 have hlen : (xs ++ news).length = (n + m) * i.size := by rw [List.length_append, hown.1, hr.1, Nat.add_mul]
 have hmax : n + m ≤ maxLen := by simp only [maxLen]; omega
 obtain ⟨hx1, hnc, hcm, hcase⟩ := hown
 have grown : ∀ (old : Nat), old < n + m →
   Ow (w.drew.alloc (.cells (xs.toArray ++ news.toArray ++ Builtin.zeroCells z.cells (grownCap w (n + m) old e - (n + m))) e)) e i.size
    (some ⟨w.heap.size, 0, none⟩) (n + m) (grownCap w (n + m) old e) (xs ++ news) ∧
   Mod (fp A) w (w.drew.alloc (.cells (xs.toArray ++ news.toArray ++ Builtin.zeroCells z.cells (grownCap w (n + m) old e - (n + m))) e)) := by
  intro old ho
  have hge := grownCap_ge w (n + m) old e
  have hcm : grownCap w (n + m) old e ≤ maxLen := grownCap_le_maxLen w (n + m) old e hmax
  refine ⟨⟨hlen, hge, hcm, .inr ⟨w.heap.size, _, rfl, heap_alloc_new w.drew _, ?_, ?_⟩⟩, (Mod.refl _ w).drew.alloc _⟩
  ·simp only [Array.size_append, List.size_toArray, size_zeroCells, hzs, hx1, hr.1, ← Nat.add_mul]
   exact Nat.mul_le_mul_right _ (by omega)
  ·simp only [Array.toList_append, List.append_assoc]
   rw [← List.append_assoc, ← hlen]
   exact List.take_left
 by_cases hm : m = 0
 ·subst hm
  have hn : news = [] := List.eq_nil_of_length_eq_zero (by simpa using hr.1)
  subst hn
  have hrun : (Builtin.append_ #[t, t] ty #[.slice A n c, .slice S 0 d]).run P w = .ok (.slice A n c) w := by
   have hf : ∀ S : Option Addr, (Builtin.firstCells i.size 0 (.slice S 0 d)).run P w = .ok #[] w := by
    intro S; cases S <;> simp [Builtin.firstCells, loadCells, loadCellsFrom]
   rcases hcase with ⟨rfl, rfl, rfl⟩ | ⟨g, cur, rfl, hb, h5, h6⟩
   ·simp [Builtin.append_, run_underlying ht, sizeOf, typeInfo, hi, Builtin.lenOf, hf]
   ·simp [Builtin.append_, run_underlying ht, sizeOf, typeInfo, hi, Builtin.lenOf, hf, hnc, storeCells]
  refine ⟨A, c, w, by simpa using hrun, ?_, Mod.refl _ w, .inl rfl⟩
  simp only [Nat.add_zero, List.append_nil]
  exact ⟨hx1, hnc, hcm, hcase⟩
 ·obtain ⟨ad, rfl, hnews⟩ := hr.2 (by omega)
  rcases hcase with ⟨rfl, rfl, rfl⟩ | ⟨g, cur, rfl, hb, h5, h6⟩
  ·have hx : xs = [] := List.eq_nil_of_length_eq_zero (by simpa using hx1)
   subst hx
   have hrun := run_append_nil (P := P) w t ty e i z ht hi hz ad m d news hr.1 hnews (by omega) (by omega) (by have hb := hbytes; simp only [Nat.zero_add] at hb; omega)
   have hgr := grown 0 (by omega)
   simp only [Nat.zero_add, List.nil_append, Array.empty_append] at hgr ⊢
   exact ⟨_, _, _, hrun, hgr.1, hgr.2, .inr rfl⟩
  ·by_cases hroom : n + m ≤ c
   ·have hfit : n * i.size + news.length ≤ cur.size := by
     rw [hr.1, ← Nat.add_mul]
     exact Nat.le_trans (Nat.mul_le_mul_right _ hroom) h5
    have hrun := run_append_room (P := P) w t ty e i ht hi g n c cur hb ad m d news hr.1 hnews h1 hroom hfit
    refine ⟨_, _, _, hrun, ⟨hlen, hroom, hcm, .inr ⟨g, _, rfl, setRow_heap w g cur _ e _ hb, ?_, ?_⟩⟩, ⟨rfl, rfl, rfl, by simp, fun k hk hf => setRow_other w g k _ (fun e => hf ⟨_, rfl, e.symm⟩)⟩, .inl rfl⟩
    ·simp only [List.size_toArray, List.length_append, List.length_take, List.length_drop, Array.length_toList]
     omega
    ·rw [h6, ← hlen]
     exact List.take_left
   ·have holds : ∀ j u, xs[j]? = some u → w.cell? ((⟨g, 0, none⟩ : Addr).add j) = some u := by
     intro j u hu
     rw [add_lit, Blk.cell hb]
     rw [← h6, List.getElem?_take] at hu
     split at hu
     ·simpa using hu
     ·cases hu
    have hrun := run_append_grow (P := P) w t ty e i z ht hi hz ⟨g, 0, none⟩ n c xs hx1 holds ad m d news hr.1 hnews (by omega) (by omega) (growslice_fits (by omega) hbytes)
    have hgr := grown c (by omega)
    exact ⟨_, _, _, hrun, hgr.1, hgr.2, .inr rfl⟩
theorem wp_append_ow (w : World) {o : Oper} {a : Act} {K : Act → World → Prop} {Q : Exit → Act → World → Prop} (s x : Operand) (t : TypeId)
  (ho : o.op = .call { callee := .builtin .append, args := #[s, x], argTypes := #[t, t] })
  (e : TypeId) (i : TypeInfo) (z : Value) (size bytes : Nat) (ht : P.underlying t = some (.slice e)) (hi : P.info? e = some i) (hz : i.zero = some z)
  (hsize : i.size = size) (hby : i.bytes = bytes) (hzs : z.cells.size = size) (hsz : 0 < size)
  (A : Option Addr) (n c : Nat) (xs : List Value) (hs : a.eval s = .slice A n c) (hown : Ow w e size A n c xs)
  (S : Option Addr) (m d : Nat) (news : List Value) (hx : a.eval x = .slice S m d) (hr : Rd w size S m news) (h1 : ∀ u ∈ news, u.oneCell' = true)
  (hbytes : (n + m) * bytes ≤ 140737488355328) (h63 : n + m ≤ 9223372036854775807)
  (h : ∀ A' c' w', Ow w' e size A' (n + m) c' (xs ++ news) → Mod (fp A) w w' → (A' = A ∨ A' = some ⟨w.heap.size, 0, none⟩) → K (a.put o.dst (.slice A' (n + m) c')) w') : o.wp P a w K Q := by
 obtain ⟨A', c', w', hrun, h2, h3, h4⟩ := run_append_ow (P := P) w t o.type e i z size bytes ht hi hz hsize hby hzs hsz A n c xs hown S m d news hr h1 hbytes h63
 unfold Oper.wp execOp
 simp only [ho, resolve, invoke, builtin, Sem.run_bind, Sem.run_pure, Result.andThen_ok, List.map_toArray, List.map_cons, List.map_nil, hs, hx, hrun]
 exact h A' c' w' h2 h3 h4
theorem wpList_append_ow {w : World} {ops : Array Oper} {rest : List Oper} {o : Oper} {a : Act} {Q : Exit → Act → World → Prop} (hgd : o.guard = none) (s x : Operand) (t : TypeId)
  (ho : o.op = .call { callee := .builtin .append, args := #[s, x], argTypes := #[t, t] })
  (e : TypeId) (i : TypeInfo) (z : Value) (size bytes : Nat) (ht : P.underlying t = some (.slice e)) (hi : P.info? e = some i) (hz : i.zero = some z)
  (hsize : i.size = size) (hby : i.bytes = bytes) (hzs : z.cells.size = size) (hsz : 0 < size)
  (A : Option Addr) (n c : Nat) (xs : List Value) (hs : a.eval s = .slice A n c) (hown : Ow w e size A n c xs)
  (S : Option Addr) (m d : Nat) (news : List Value) (hx : a.eval x = .slice S m d) (hr : Rd w size S m news) (h1 : ∀ u ∈ news, u.oneCell' = true)
  (hbytes : (n + m) * bytes ≤ 140737488355328) (h63 : n + m ≤ 9223372036854775807)
  (h : ∀ A' c' w', Ow w' e size A' (n + m) c' (xs ++ news) → Mod (fp A) w w' → (A' = A ∨ A' = some ⟨w.heap.size, 0, none⟩) → wpList P ops Q rest (a.put o.dst (.slice A' (n + m) c')) w') : wpList P ops Q (o :: rest) a w :=
 wpList_plain hgd fun _ hK => wp_append_ow w s x t ho e i z size bytes ht hi hz hsize hby hzs hsz A n c xs hs hown S m d news hx hr h1 hbytes h63 fun A' c' w' h2 h3 h4 => hK _ _ (h A' c' w' h2 h3 h4)
theorem step_append_ow {w : World} {ops : Array Oper} {o : Oper} {a : Act} {K : Act → World → Prop} {Q : Exit → Act → World → Prop} {E : Prop} (hgd : o.guard = none) (s x : Operand) (t : TypeId)
  (ho : o.op = .call { callee := .builtin .append, args := #[s, x], argTypes := #[t, t] })
  (e : TypeId) (i : TypeInfo) (z : Value) (size bytes : Nat) (ht : P.underlying t = some (.slice e)) (hi : P.info? e = some i) (hz : i.zero = some z)
  (hsize : i.size = size) (hby : i.bytes = bytes) (hzs : z.cells.size = size) (hsz : 0 < size)
  (A : Option Addr) (n c : Nat) (xs : List Value) (hs : a.eval s = .slice A n c) (hown : Ow w e size A n c xs)
  (S : Option Addr) (m d : Nat) (news : List Value) (hx : a.eval x = .slice S m d) (hr : Rd w size S m news) (h1 : ∀ u ∈ news, u.oneCell' = true)
  (hbytes : (n + m) * bytes ≤ 140737488355328) (h63 : n + m ≤ 9223372036854775807)
  (h : ∀ A' c' w', Ow w' e size A' (n + m) c' (xs ++ news) → Mod (fp A) w w' → (A' = A ∨ A' = some ⟨w.heap.size, 0, none⟩) → K (a.put o.dst (.slice A' (n + m) c')) w') :
  if Region.wanted o (yielded ops a.tmps) = true then Oper.wp P o a w K Q else E := by
 have hw : Region.wanted o (yielded ops a.tmps) = true := by simp [Region.wanted, hgd]
 rw [if_pos hw]
 exact wp_append_ow w s x t ho e i z size bytes ht hi hz hsize hby hzs hsz A n c xs hs hown S m d news hx hr h1 hbytes h63 h
end
def bv (b : UInt8) : Value := .int .u8 (b.toNat : Int)
def bvs (l : List UInt8) : List Value := l.map bv
theorem bvs_length (l : List UInt8) : (bvs l).length = l.length := by simp [bvs]
theorem bvs_append (a b : List UInt8) : bvs (a ++ b) = bvs a ++ bvs b := by simp [bvs]
theorem bvs_take (a : List UInt8) (k : Nat) : bvs (a.take k) = (bvs a).take k := by simp [bvs, List.map_take]
theorem bvs_one (l : List UInt8) : ∀ u ∈ bvs l, u.oneCell' = true := by
 intro u hu
 simp only [bvs, List.mem_map] at hu
 obtain ⟨b, _, rfl⟩ := hu
 rfl
theorem bvs_get {l : List UInt8} {k : Nat} (h : k < l.length) : (bvs l)[k]? = some (.int .u8 (l[k].toNat : Int)) := by simp [bvs, bv, h]
def ivs (l : List Int) : List Value := l.map (.int .i64 ·)
theorem ivs_length (l : List Int) : (ivs l).length = l.length := by simp [ivs]
theorem ivs_append (a b : List Int) : ivs (a ++ b) = ivs a ++ ivs b := by simp [ivs]
theorem ivs_one (l : List Int) : ∀ u ∈ ivs l, u.oneCell' = true := by
 intro u hu
 simp only [ivs, List.mem_map] at hu
 obtain ⟨b, _, rfl⟩ := hu
 rfl
theorem ivs_get {l : List Int} {k : Nat} (h : k < l.length) : (ivs l)[k]? = some (.int .i64 l[k]) := by simp [ivs, h]
def RdB (w : World) (A : Option Addr) (n : Nat) (l : List UInt8) : Prop := Rd w 1 A n (bvs l)
def OwB (w : World) (e : TypeId) (A : Option Addr) (n c : Nat) (l : List UInt8) : Prop := Ow w e 1 A n c (bvs l)
theorem RdB.len {w : World} {A : Option Addr} {n : Nat} {l : List UInt8} (h : RdB w A n l) : l.length = n := by have := h.1; rw [bvs_length] at this; omega
theorem OwB.len {w : World} {e : TypeId} {A : Option Addr} {n c : Nat} {l : List UInt8} (h : OwB w e A n c l) : l.length = n := by have := h.1; rw [bvs_length] at this; omega
def txt (l : List UInt8) : ByteArray := ⟨l.toArray⟩
set_option maxRecDepth 512
@[simp, go_sem] theorem txt_toList (l : List UInt8) : (txt l).toList = l := ByteArray.toList_mk l
theorem run_string_of_bytes {P : Program} (w : World) (src dst e : TypeId) (hs : P.underlying src = some (.slice e)) (he : P.underlying e = some (.int .u8)) (hd : P.underlying dst = some .string)
  (A : Option Addr) (n c : Nat) (l : List UInt8) (h : RdB w A n l) : (convert src dst (.slice A n c)).run P w = .ok (.string (txt l)) w := by
 rw [run_convert_bytes_string w src dst e _ n c hs he hd]
 rcases A with _ | ad
 ·have hl : l = [] := by
   rcases Nat.eq_zero_or_pos n with h0 | h0
   ·exact List.eq_nil_of_length_eq_zero (by rw [h.len, h0])
   ·obtain ⟨ad, h, _⟩ := h.2 h0; cases h
  subst hl
  simp [Conv.bytesToString]; rfl
 ·have hcells : ∀ j u, (bvs l)[j]? = some u → w.cell? (ad.add j) = some u := by
   intro j u hu
   rcases Nat.eq_zero_or_pos n with h0 | h0
   ·have : l = [] := List.eq_nil_of_length_eq_zero (by rw [h.len, h0])
    subst this; simp [bvs] at hu
   ·obtain ⟨ad', h', hc⟩ := h.2 h0
    injection h' with h'
    subst h'
    exact hc j u hu
  have hl : (loadCells ad n).run P w = .ok ((l.map fun b => (b.toNat : Int)).map (Value.int .u8)).toArray w := by
   have := run_loadCells_list (P := P) w ad (bvs l) hcells
   rw [bvs_length, h.len] at this
   rw [this]
   simp [bvs, bv, Function.comp_def]
  rw [run_bytesToString w ad n c _ hl, foldl_push_bytes]
  simp [txt, ByteArray.empty, ByteArray.emptyWithCapacity, Function.comp_def]
  rfl
theorem rdn (w : World) (e : TypeId) (size n g : Nat) (cs : Array Value) (fr : Nat × Nat) (hg : g = w.heap.size) (hs : cs.size = n * size) : Rd (w.alloc (.cells cs e fr)) size (some ⟨g, 0, none⟩) n cs.toList := by
 subst hg
 refine ⟨by simpa using hs, fun _ => ⟨_, rfl, fun j u hu => ?_⟩⟩
 rw [add_lit, World.cell?_alloc_mark]
 simpa using hu
theorem Ow.ne_ow {w : World} {e e' : TypeId} {s s' n n' c c' : Nat} {A A' : Option Addr} {xs xs' : List Value} (h : Ow w e s A n c xs) (h' : Ow w e' s' A' n' c' xs') (hne : e ≠ e') : ∀ k, fp A k → ¬ fp A' k := by
 rintro k ⟨a, ha, rfl⟩ ⟨b, hb, hab⟩
 rcases h.2.2.2 with ⟨h4, _⟩ | ⟨g, cur, h4, hg, _⟩
 ·rw [h4] at ha; cases ha
 ·rw [h4] at ha; cases ha
  rcases h'.2.2.2 with ⟨h4, _⟩ | ⟨g', cur', h4, hg', _⟩
  ·rw [h4] at hb; cases hb
  ·rw [h4] at hb; cases hb
   simp only at hab
   subst hab
   exact hg.ne_ hg' hne rfl
theorem Fresh.apart {w : World} {A : Option Addr} (h : Fresh w A) {F : Nat → Prop} (hF : ∀ k, F k → k < w.heap.size) : ∀ k, fp A k → ¬ F k := by
 rintro k ⟨a, ha, rfl⟩ hf
 have := h a ha
 have := hF _ hf
 omega
theorem Fresh.later {w w1 : World} {A : Option Addr} (h : Fresh w1 A) (hs : w.heap.size ≤ w1.heap.size) : Fresh w A := fun a ha => Nat.le_trans hs (h a ha)
theorem flat_length {α : Type} (f : α → List Value) (size : Nat) (hf : ∀ e, (f e).length = size) (es : List α) : (es.flatMap f).length = es.length * size := by
 induction es with
 | nil => simp
 | cons e es ih => rw [List.flatMap_cons, List.length_append, ih, hf, List.length_cons, Nat.succ_mul]; omega
theorem flat_get {α : Type} (f : α → List Value) (size : Nat) (hf : ∀ e, (f e).length = size) : ∀ (es : List α) (j : Nat) (e : α), es[j]? = some e → ∀ i, i < size → (es.flatMap f)[j * size + i]? = (f e)[i]? := by
 intro es
 induction es with
 | nil => intro j e h; simp at h
 | cons x es ih =>
  intro j e h i hi
  cases j with
  | zero =>
   simp at h; subst h
   rw [List.flatMap_cons, List.getElem?_append_left (by rw [hf]; omega)]
   simp
  | succ j =>
   rw [List.flatMap_cons, List.getElem?_append_right (by rw [hf, Nat.succ_mul]; omega), hf]
   have e1 : (j + 1) * size + i - size = j * size + i := by rw [Nat.succ_mul]; omega
   rw [e1]
   exact ih j e (by simpa using h) i hi
structure SV where
 a : Option Addr
 n : Nat
 c : Nat
def SV.v (s : SV) : Value := .slice s.a s.n s.c
def Txts (w : World) (Bd : Nat) (ss : List SV) (ls : List (List UInt8)) : Prop :=
 ss.length = ls.length ∧ ∀ (i : Nat) (s : SV) (l : List UInt8), ss[i]? = some s → ls[i]? = some l → RdB w s.a s.n l ∧ s.n ≤ s.c ∧ s.c ≤ 140737488351232 ∧ (0 < s.n → ∀ k, fp s.a k → k < Bd)
section
variable {w w' : World} {Bd : Nat} {ss : List SV} {ls : List (List UInt8)}
theorem Txts.mod {F : Nat → Prop} (h : Txts w Bd ss ls) (hm : Mod F w w') (hF : ∀ k, F k → Bd ≤ k) : Txts w' Bd ss ls :=
 ⟨h.1, fun i s l hs hl => by
  obtain ⟨h1, h2, h3, h4⟩ := h.2 i s l hs hl
  exact ⟨h1.mod' hm fun h0 k hk hf => by have := hF k hf; have := h4 h0 k hk; omega, h2, h3, h4⟩⟩
theorem Txts.mod0 (h : Txts w Bd ss ls) (hm : Mod none_ w w') : Txts w' Bd ss ls := h.mod (F := none_) hm fun _ hf => False.elim hf
theorem Txts.more {B' : Nat} (h : Txts w Bd ss ls) (hB : Bd ≤ B') : Txts w B' ss ls :=
 ⟨h.1, fun i s l hs hl => by
  obtain ⟨h1, h2, h3, h4⟩ := h.2 i s l hs hl
  exact ⟨h1, h2, h3, fun h0 k hk => Nat.lt_of_lt_of_le (h4 h0 k hk) hB⟩⟩
theorem Txts.nil : Txts w Bd [] [] := ⟨rfl, fun i s l hs _ => by simp at hs⟩
theorem Txts.snoc (h : Txts w Bd ss ls) {s : SV} {l : List UInt8} (h1 : RdB w s.a s.n l) (h2 : s.n ≤ s.c) (h3 : s.c ≤ 140737488351232) (h4 : 0 < s.n → ∀ k, fp s.a k → k < Bd) : Txts w Bd (ss ++ [s]) (ls ++ [l]) := by
 refine ⟨by simp [h.1], fun i s' l' hs hl => ?_⟩
 by_cases hi : i < ss.length
 ·rw [List.getElem?_append_left hi] at hs
  rw [List.getElem?_append_left (by rw [← h.1]; exact hi)] at hl
  exact h.2 i s' l' hs hl
 ·rw [List.getElem?_append_right (by omega)] at hs
  rw [List.getElem?_append_right (by rw [← h.1]; omega), ← h.1] at hl
  have e : i - ss.length = 0 := by
   rcases Nat.lt_or_ge (i - ss.length) 1 with h5 | h5
   ·omega
   ·rw [List.getElem?_eq_none (by simpa using h5)] at hs; cases hs
  rw [e] at hs hl
  simp at hs hl
  subst hs hl
  exact ⟨h1, h2, h3, h4⟩
theorem Txts.take_ (h : Txts w Bd ss ls) (k : Nat) : Txts w Bd (ss.take k) (ls.take k) := by
 refine ⟨by rw [List.length_take, List.length_take, h.1], fun i s l hs hl => ?_⟩
 rw [List.getElem?_take] at hs hl
 by_cases hi : i < k
 ·rw [if_pos hi] at hs hl
  exact h.2 i s l hs hl
 ·rw [if_neg hi] at hs
  cases hs
end
set_option maxRecDepth 512
theorem u8info : (Tryz.prog.info? 5).map (fun i => (i.zero, i.size, i.bytes)) = some (some (.int .u8 0), 1, 1) := by kernel_rfl
theorem app8 {w : World} {ops : Array Oper} {rest : List Oper} {o : Oper} {a : Act} {Q : Exit → Act → World → Prop} (hgd : o.guard = none) (s x : Operand)
  (ho : o.op = .call { callee := .builtin .append, args := #[s, x], argTypes := #[126, 126] })
  {A : Option Addr} {n c : Nat} {xs : List UInt8} (hs : a.eval s = .slice A n c) (hown : OwB w 5 A n c xs)
  {S : Option Addr} {m d : Nat} {news : List UInt8} (hx : a.eval x = .slice S m d) (hr : RdB w S m news) (hb : n + m ≤ 140737488355328)
  (h : ∀ A' c' w', OwB w' 5 A' (n + m) c' (xs ++ news) → Mod (fp A) w w' → (A' = A ∨ A' = some ⟨w.heap.size, 0, none⟩) → wpList Tryz.prog ops Q rest (a.put o.dst (.slice A' (n + m) c')) w') : wpList Tryz.prog ops Q (o :: rest) a w := by
 obtain ⟨i0, hi, hz0, hz1, hz2⟩ := info_parts u8info
 refine wpList_append_ow hgd s x 126 ho 5 i0 _ 1 1 Tryz.underlying126 hi hz0 hz1 hz2 rfl (by omega) A n c (bvs xs) hs hown S m d (bvs news) hx hr (bvs_one _) (by omega) (by omega) ?_
 intro A' c' w' h1
 rw [← bvs_append] at h1
 exact h A' c' w' h1
theorem rdb_one (w : World) (e : TypeId) {x : Int} {b : UInt8} (h : x = (b.toNat : Int)) : RdB (w.alloc (.cells #[.int .u8 x] e)) (some ⟨w.heap.size, 0, none⟩) 1 [b] := by
 subst h
 exact rdn w e 1 1 w.heap.size #[.int .u8 (b.toNat : Int)] (0, 0) rfl rfl
def RdI (w : World) (A : Option Addr) (n : Nat) (l : List Int) : Prop := Rd w 1 A n (ivs l)
def OwI (w : World) (A : Option Addr) (n c : Nat) (l : List Int) : Prop := Ow w 2 1 A n c (ivs l)
theorem RdI.len {w : World} {A : Option Addr} {n : Nat} {l : List Int} (h : RdI w A n l) : l.length = n := by have := h.1; rw [ivs_length] at this; omega
theorem OwI.len {w : World} {A : Option Addr} {n c : Nat} {l : List Int} (h : OwI w A n c l) : l.length = n := by have := h.1; rw [ivs_length] at this; omega
theorem rdi_one (w : World) (e : TypeId) (x : Int) : RdI (w.alloc (.cells #[.int .i64 x] e)) (some ⟨w.heap.size, 0, none⟩) 1 [x] :=
 rdn w e 1 1 w.heap.size #[.int .i64 x] (0, 0) rfl rfl
theorem Fresh.app {w w1 : World} {A A' : Option Addr} (h : Fresh w A) (hs : w.heap.size ≤ w1.heap.size) (hA : A' = A ∨ A' = some ⟨w1.heap.size, 0, none⟩) : Fresh w A' := by
 rcases hA with rfl | rfl
 ·exact h
 ·intro a ha; cases ha; exact hs
theorem Mod.app {w w1 w2 : World} {A : Option Addr} (h : Mod none_ w w1) (hf : Fresh w A) (h2 : Mod (fp A) w1 w2) : Mod none_ w w2 :=
 h.then h2 fun i hi hk => by
  obtain ⟨a, ha, rfl⟩ := hk
  have := hf a ha
  omega
structure Lg where
 n : List UInt8
 x : Int
deriving DecidableEq
structure Is where
 r : Int
 n : Int
deriving DecidableEq
structure Od where
 c : Int
 s : Int
 k : Int
 acct : List UInt8
 peer : List UInt8
 sum : Int
 legs : List Lg
 per : Int
 hold : Int
 note : List UInt8
deriving DecidableEq
structure En where
 o : Od
 none : Bool
 deps : List Is
deriving DecidableEq
structure Rc where
 i : Is
 bal : Int
 st : Int
 by_ : Int
 e : En
deriving DecidableEq
structure Mg where
 frm : Int
 to : Int
 kind : Int
 r : Rc
deriving DecidableEq
def od0 : Od := ⟨0, 0, 0, [], [], 0, [], 0, 0, []⟩
def en0 : En := ⟨od0, false, []⟩
theorem txt_eq {a b : List UInt8} : txt a = txt b ↔ a = b := by
 constructor
 ·intro h
  have : (txt a).data.toList = (txt b).data.toList := by rw [h]
  simpa [txt] using this
 ·rintro rfl; rfl
def lgs (ls : List Lg) : List Value := ls.flatMap fun l => [.string (txt l.n), .int .i64 l.x]
theorem lgs_length (ls : List Lg) : (lgs ls).length = ls.length * 2 := flat_length _ 2 (fun _ => rfl) ls
def RdL (w : World) (A : Option Addr) (n : Nat) (ls : List Lg) : Prop := Rd w 2 A n (lgs ls)
theorem RdL.len {w : World} {A : Option Addr} {n : Nat} {ls : List Lg} (h : RdL w A n ls) : ls.length = n := by have := h.1; rw [lgs_length] at this; omega
theorem RdL.mod0 {w w' : World} {A : Option Addr} {n : Nat} {ls : List Lg} (h : RdL w A n ls) (hm : Mod none_ w w') : RdL w' A n ls := Rd.mod0 h hm
theorem rdl_get {w : World} {A : Option Addr} {n : Nat} {ls : List Lg} (h : RdL w A n ls) {j : Nat} (hj : j < n) : ∃ b o l, A = some ⟨b, o, none⟩ ∧ l ∈ ls ∧ ls[j]? = some l ∧
  w.cell? ⟨b, o + j*2, none⟩ = some (.string (txt l.n)) ∧ w.cell? ⟨b, o + j*2 + 1, none⟩ = some (.int .i64 l.x) := by
 have hl := h.len
 obtain ⟨b, o, e, hc⟩ := Rd.form h (show 0 < n by omega) (by omega)
 have hjl : j < ls.length := by omega
 have hg := flat_get (fun l : Lg => [Value.string (txt l.n), .int .i64 l.x]) 2 (fun _ => rfl) ls j ls[j] (List.getElem?_eq_getElem hjl)
 refine ⟨b, o, ls[j], e, List.getElem_mem hjl, List.getElem?_eq_getElem hjl, ?_, ?_⟩
 ·exact hc (j*2) _ (hg 0 (by omega))
 ·rw [Nat.add_assoc]; exact hc (j*2+1) _ (hg 1 (by omega))
def iss (ls : List Is) : List Value := ls.flatMap fun l => [.int .i64 l.r, .int .i64 l.n]
theorem iss_length (ls : List Is) : (iss ls).length = ls.length * 2 := flat_length _ 2 (fun _ => rfl) ls
theorem iss_append (C D : List Is) : iss (C ++ D) = iss C ++ iss D := by unfold iss; rw [List.flatMap_append]
def RdP (w : World) (A : Option Addr) (n : Nat) (ls : List Is) : Prop := Rd w 2 A n (iss ls)
theorem RdP.len {w : World} {A : Option Addr} {n : Nat} {ls : List Is} (h : RdP w A n ls) : ls.length = n := by have := h.1; rw [iss_length] at this; omega
theorem RdP.mod0 {w w' : World} {A : Option Addr} {n : Nat} {ls : List Is} (h : RdP w A n ls) (hm : Mod none_ w w') : RdP w' A n ls := Rd.mod0 h hm
theorem rdp_get {w : World} {A : Option Addr} {n : Nat} {ls : List Is} (h : RdP w A n ls) {j : Nat} (hj : j < n) : ∃ b o l, A = some ⟨b, o, none⟩ ∧ l ∈ ls ∧ ls[j]? = some l ∧
  w.cell? ⟨b, o + j*2, none⟩ = some (.int .i64 l.r) ∧ w.cell? ⟨b, o + j*2 + 1, none⟩ = some (.int .i64 l.n) := by
 have hl := h.len
 obtain ⟨b, o, e, hc⟩ := Rd.form h (show 0 < n by omega) (by omega)
 have hjl : j < ls.length := by omega
 have hg := flat_get (fun l : Is => [Value.int .i64 l.r, .int .i64 l.n]) 2 (fun _ => rfl) ls j ls[j] (List.getElem?_eq_getElem hjl)
 refine ⟨b, o, ls[j], e, List.getElem_mem hjl, List.getElem?_eq_getElem hjl, ?_, ?_⟩
 ·exact hc (j*2) _ (hg 0 (by omega))
 ·rw [Nat.add_assoc]; exact hc (j*2+1) _ (hg 1 (by omega))
structure OdM (w : World) (o : Od) (L : SV) : Prop where
 rd : RdL w L.a L.n o.legs
 cap : L.n ≤ L.c
structure EnM (w : World) (e : En) (L D : SV) : Prop where
 od : OdM w e.o L
 rd : RdP w D.a D.n e.deps
 cap : D.n ≤ D.c
theorem OdM.mod0 {w w' : World} {o : Od} {L : SV} (h : OdM w o L) (hm : Mod none_ w w') : OdM w' o L := ⟨h.rd.mod0 hm, h.cap⟩
theorem EnM.mod0 {w w' : World} {e : En} {L D : SV} (h : EnM w e L D) (hm : Mod none_ w w') : EnM w' e L D := ⟨h.od.mod0 hm, h.rd.mod0 hm, h.cap⟩
theorem od0_mem (w : World) : OdM w od0 ⟨none, 0, 0⟩ := ⟨Rd.none_, Nat.le_refl _⟩
theorem en0_mem (w : World) : EnM w en0 ⟨none, 0, 0⟩ ⟨none, 0, 0⟩ := ⟨od0_mem w, Rd.none_, Nat.le_refl _⟩
def lgV (l : Lg) : Value := .agg #[.string (txt l.n), .int .i64 l.x]
def isV (l : Is) : Value := .agg #[.int .i64 l.r, .int .i64 l.n]
set_option maxRecDepth 100000
theorem eqIn_lg (W : World) (x y : Lg) : (Op.equalIn 10000 139 (lgV x) (lgV y)).run Tryz.prog W = .ok (decide (x = y)) W := by
 unfold lgV
 rw [run_equalIn_agg W 9999 139 _ _ (by kernel_rfl) (by kernel_rfl)]
 obtain ⟨fs, hfs⟩ : ∃ fs, (Tryz.prog.fieldsOf 139).toList = fs := ⟨_, rfl⟩
 rw [hfs]
 have e : fs = (Tryz.prog.fieldsOf 139).toList := hfs.symm
 simp [go_sem] at e
 clear hfs
 subst e
 obtain ⟨xn, xh⟩ := x
 obtain ⟨yn, yh⟩ := y
 by_cases h1 : xn = yn
 ·subst h1
  by_cases h2 : xh = yh
  ·subst h2
   simp [go_sem]
  ·simp [go_sem, h2]
 ·simp [go_sem, h1, txt_eq]
theorem neq_lg (W : World) (x y : Lg) : (binOp .neq 139 (lgV x) (lgV y)).run Tryz.prog W = .ok (.bool (!decide (x = y))) W := by
 have := eqIn_lg W x y
 unfold lgV at *
 rw [run_neq_struct, this]; rfl
theorem eqIn_is (W : World) (x y : Is) : (Op.equalIn 10000 27 (isV x) (isV y)).run Tryz.prog W = .ok (decide (x = y)) W := by
 unfold isV
 rw [run_equalIn_agg W 9999 27 _ _ (by kernel_rfl) (by kernel_rfl)]
 obtain ⟨fs, hfs⟩ : ∃ fs, (Tryz.prog.fieldsOf 27).toList = fs := ⟨_, rfl⟩
 rw [hfs]
 have e : fs = (Tryz.prog.fieldsOf 27).toList := hfs.symm
 simp [go_sem] at e
 clear hfs
 subst e
 obtain ⟨xn, xh⟩ := x
 obtain ⟨yn, yh⟩ := y
 by_cases h1 : xn = yn
 ·subst h1
  by_cases h2 : xh = yh
  ·subst h2
   simp [go_sem]
  ·simp [go_sem, h2]
 ·simp [go_sem, h1]
theorem neq_is (W : World) (x y : Is) : (binOp .neq 27 (isV x) (isV y)).run Tryz.prog W = .ok (.bool (!decide (x = y))) W := by
 have := eqIn_is W x y
 unfold isV at *
 rw [run_neq_struct, this]; rfl
theorem eql_is (W : World) (x y : Is) : (binOp .eql 27 (isV x) (isV y)).run Tryz.prog W = .ok (.bool (decide (x = y))) W := by
 have := eqIn_is W x y
 unfold isV at *
 rw [run_eql_struct, this]; rfl
theorem eqIn_id (W : World) (x y : Is) : (Op.equalIn 10000 37 (isV x) (isV y)).run Tryz.prog W = .ok (decide (x = y)) W := by
 unfold isV
 rw [run_equalIn_agg W 9999 37 _ _ (by kernel_rfl) (by kernel_rfl)]
 obtain ⟨fs, hfs⟩ : ∃ fs, (Tryz.prog.fieldsOf 37).toList = fs := ⟨_, rfl⟩
 rw [hfs]
 have e : fs = (Tryz.prog.fieldsOf 37).toList := hfs.symm
 simp [go_sem] at e
 clear hfs
 subst e
 obtain ⟨xn, xh⟩ := x
 obtain ⟨yn, yh⟩ := y
 by_cases h1 : xn = yn
 ·subst h1
  by_cases h2 : xh = yh
  ·subst h2
   simp [go_sem]
  ·simp [go_sem, h2]
 ·simp [go_sem, h1]
theorem eql_id (W : World) (x y : Is) : (binOp .eql 37 (isV x) (isV y)).run Tryz.prog W = .ok (.bool (decide (x = y))) W := by
 have := eqIn_id W x y
 unfold isV at *
 rw [run_eql_struct, this]; rfl
structure Ms where
 m : Mg
 L : SV
 D : SV
def msC (x : Ms) : List Value := [.int .i64 x.m.frm, .int .i64 x.m.to, .int .i64 x.m.kind, .int .i64 x.m.r.i.r, .int .i64 x.m.r.i.n, .int .i64 x.m.r.bal, .int .i64 x.m.r.st, .int .i64 x.m.r.by_, .int .i64 x.m.r.e.o.c, .int .i64 x.m.r.e.o.s, .int .i64 x.m.r.e.o.k, .string (txt x.m.r.e.o.acct), .string (txt x.m.r.e.o.peer), .int .i64 x.m.r.e.o.sum, .slice x.L.a x.L.n x.L.c, .int .i64 x.m.r.e.o.per, .int .i64 x.m.r.e.o.hold, .string (txt x.m.r.e.o.note), .bool x.m.r.e.none, .slice x.D.a x.D.n x.D.c]
def mss (xs : List Ms) : List Value := xs.flatMap msC
theorem mss_length (xs : List Ms) : (mss xs).length = xs.length * 20 := flat_length _ 20 (fun _ => rfl) xs
theorem mss_append (C D : List Ms) : mss (C ++ D) = mss C ++ mss D := by unfold mss; rw [List.flatMap_append]
theorem mss_one (xs : List Ms) : ∀ u ∈ mss xs, u.oneCell' = true := by
 intro u hu
 unfold mss at hu
 rw [List.mem_flatMap] at hu
 obtain ⟨a, _, ha⟩ := hu
 simp only [msC, List.mem_cons, List.not_mem_nil, or_false] at ha
 rcases ha with rfl | rfl | rfl | rfl | rfl | rfl | rfl | rfl | rfl | rfl | rfl | rfl | rfl | rfl | rfl | rfl | rfl | rfl | rfl | rfl <;> rfl
def RdM (w : World) (A : Option Addr) (n : Nat) (xs : List Ms) : Prop := Rd w 20 A n (mss xs)
def OwM (w : World) (A : Option Addr) (n c : Nat) (xs : List Ms) : Prop := Ow w 66 20 A n c (mss xs)
def zeroM : Value := .agg #[.int .i64 0, .int .i64 0, .int .i64 0, .int .i64 0, .int .i64 0, .int .i64 0, .int .i64 0, .int .i64 0, .int .i64 0, .int .i64 0, .int .i64 0, .string ⟨#[]⟩, .string ⟨#[]⟩, .int .i64 0, .slice none 0 0, .int .i64 0, .int .i64 0, .string ⟨#[]⟩, .bool false, .slice none 0 0]
set_option maxRecDepth 512
theorem msinfo : (Tryz.prog.info? 66).map (fun i => (i.zero, i.size, i.bytes)) = some (some zeroM, 20, 216) := by kernel_rfl
theorem appM {w : World} {ops : Array Oper} {rest : List Oper} {o : Oper} {a : Act} {Q : Exit → Act → World → Prop} (hgd : o.guard = none) (s x : Operand)
  (ho : o.op = .call { callee := .builtin .append, args := #[s, x], argTypes := #[43, 43] })
  {A : Option Addr} {n c : Nat} {xs : List Ms} (hs : a.eval s = .slice A n c) (hown : OwM w A n c xs)
  {S : Option Addr} {m d : Nat} {news : List Ms} (hx : a.eval x = .slice S m d) (hr : RdM w S m news) (hb : (n + m) * 216 ≤ 140737488355328)
  (h : ∀ A' c' w', OwM w' A' (n + m) c' (xs ++ news) → Mod (fp A) w w' → (A' = A ∨ A' = some ⟨w.heap.size, 0, none⟩) → wpList Tryz.prog ops Q rest (a.put o.dst (.slice A' (n + m) c')) w') : wpList Tryz.prog ops Q (o :: rest) a w := by
 obtain ⟨i0, hi, hz0, hz1, hz2⟩ := info_parts msinfo
 refine wpList_append_ow hgd s x 43 ho 66 i0 _ 20 216 Tryz.underlying43 hi hz0 hz1 hz2 rfl (by omega) A n c (mss xs) hs hown S m d (mss news) hx hr (mss_one _) (by omega) (by omega) ?_
 intro A' c' w' h1
 rw [← mss_append] at h1
 exact h A' c' w' h1
end Go.Proofs.YtfkfiokkjjnhiaaGreat
namespace Go.Proofs.YtfkfiokkjjnhiaaGreat
def by_ (n : Nat) : UInt8 := UInt8.ofNat n
theorem by_toNat (n : Nat) : (by_ n).toNat = n % 256 := by simp [by_]
def vbF : Nat → Nat → List UInt8
 | 0, _ => []
 | f + 1, m => if m < 128 then [by_ m] else by_ (m % 128 + 128) :: vbF f (m / 128)
def vb (m : Nat) : List UInt8 := vbF 10 m
def rdF : Nat → Nat → List UInt8 → Nat × Nat × Nat
 | _, _, [] => (4, 0, 0)
 | m, i, c :: t =>
  if i = 10 ∨ (i = 9 ∧ 1 < c.toNat) then (if t = [] ∧ 128 ≤ c.toNat ∧ i < 10 then 4 else 3, 0, 0)
  else if c.toNat < 128 ∧ c.toNat = 0 ∧ 0 < i then (3, 0, 0)
  else if c.toNat < 128 then (0, m + c.toNat * 2 ^ (7 * i), i + 1)
  else rdF (m + (c.toNat - 128) * 2 ^ (7 * i)) (i + 1) t
def rdNum (l : List UInt8) : Nat × Nat × Nat := rdF 0 0 l
theorem ofInt_nat (n a : Nat) (ha : a < 2 ^ n) : (BitVec.ofInt n (a : Int)).toNat = a := by
 rw [BitVec.ofInt_natCast, BitVec.toNat_ofNat]; exact Nat.mod_eq_of_lt ha
theorem bx8 (a b : Nat) (ha : a < 256) (hb : b < 256) : bits .xor .u8 (a : Int) (b : Int) = ((a ^^^ b : Nat) : Int) := by
 have hx : a ^^^ b < 2 ^ 8 := Nat.xor_lt_two_pow (by omega) (by omega)
 show IntKind.u8.wrap ((BitVec.ofInt 8 (a : Int) ^^^ BitVec.ofInt 8 (b : Int)).toNat : Int) = _
 rw [BitVec.toNat_xor, ofInt_nat 8 a (by omega), ofInt_nat 8 b (by omega), IntKind.wrap_u8]
 omega
theorem bx32 (a b : Nat) (ha : a < 4294967296) (hb : b < 4294967296) : bits .xor .u32 (a : Int) (b : Int) = ((a ^^^ b : Nat) : Int) := by
 have hx : a ^^^ b < 2 ^ 32 := Nat.xor_lt_two_pow (by omega) (by omega)
 show IntKind.u32.wrap ((BitVec.ofInt 32 (a : Int) ^^^ BitVec.ofInt 32 (b : Int)).toNat : Int) = _
 rw [BitVec.toNat_xor, ofInt_nat 32 a (by omega), ofInt_nat 32 b (by omega), IntKind.wrap_u32]
 omega
theorem ba32 (a b : Nat) (ha : a < 4294967296) (hb : b < 4294967296) : bits .and .u32 (a : Int) (b : Int) = ((a &&& b : Nat) : Int) := by
 have hx : a &&& b < 2 ^ 32 := Nat.and_lt_two_pow _ (by omega)
 show IntKind.u32.wrap ((BitVec.ofInt 32 (a : Int) &&& BitVec.ofInt 32 (b : Int)).toNat : Int) = _
 rw [BitVec.toNat_and, ofInt_nat 32 a (by omega), ofInt_nat 32 b (by omega), IntKind.wrap_u32]
 omega
theorem or_add (a b k : Nat) (hb : b < 2 ^ k) : (a * 2 ^ k) ||| b = a * 2 ^ k + b := by
 rw [Nat.mul_comm]; exact (Nat.two_pow_add_eq_or_of_lt hb a).symm
end Go.Proofs.YtfkfiokkjjnhiaaGreat
