import Derived.WalkKit
import Derived.WalkSpells
import Derived.WalkLawsBesides
import Derived.Lib.Hide
import Derived.Deep.Draws
import Derived.Deep.AppendLies
import Derived.Maps.AppendAt
import Derived.BigQuiet
import Derived.Lib.SlBytesConst
import Derived.Lib.MinMax
import Derived.Test.YtimlfdihodoolaaGreatRows
import Derived.Laws.StructEq
import Derived.Maps.OwnSet
import Derived.StringKeys
import Derived.Maps.RangeWalk
import Derived.WideKeyPair
import Derived.DeepKeys4
/-
  Words for memory: 'Mod F w w'' (only the blocks in F, and new ones, may have changed), a slice that reads as a list of cells ('Rd'), a row of the call's own that may be appended to ('Ow'), and the laws of append on them. No condition.
-/
namespace Go.Proofs.YtimlfdihodoolaaGreat
set_option linter.unusedVariables false
set_option linter.unusedSimpArgs false
open Go.RowKit

/-- Only the blocks in F, and new ones, may have changed. -/
structure Mod (F : Nat → Prop) (w w' : World) : Prop where
  os : w'.os = w.os
  tape : w'.tape = w.tape
  output : w'.output = w.output
  size : w.heap.size ≤ w'.heap.size
  block : ∀ k, k < w.heap.size → ¬ F k → w'.heap[k]? = w.heap[k]?

def none_ : Nat → Prop := fun _ => False
def fp (A : Option Addr) : Nat → Prop := fun k => ∃ a, A = some a ∧ a.block = k
def Fresh (w : World) (A : Option Addr) : Prop := ∀ a, A = some a → w.heap.size ≤ a.block

section
variable {F G : Nat → Prop} {w w' w'' : World}
theorem Mod.refl (F : Nat → Prop) (w : World) : Mod F w w := ⟨rfl, rfl, rfl, Nat.le_refl _, fun _ _ _ => rfl⟩
theorem Mod.trans (h : Mod F w w') (k : Mod F w' w'') : Mod F w w'' :=
  ⟨k.os.trans h.os, k.tape.trans h.tape, k.output.trans h.output, Nat.le_trans h.size k.size, fun i hi hf => (k.block i (Nat.lt_of_lt_of_le hi h.size) hf).trans (h.block i hi hf)⟩
/-- The second step may also change what the first one has made. -/
theorem Mod.then (h : Mod F w w') (k : Mod G w' w'') (hs : ∀ i, i < w.heap.size → G i → F i) : Mod F w w'' :=
  ⟨k.os.trans h.os, k.tape.trans h.tape, k.output.trans h.output, Nat.le_trans h.size k.size,
    fun i hi hf => (k.block i (Nat.lt_of_lt_of_le hi h.size) (fun hg => hf (hs i hi hg))).trans (h.block i hi hf)⟩
theorem Mod.mono (h : Mod F w w') (hs : ∀ i, F i → G i) : Mod G w w' := ⟨h.os, h.tape, h.output, h.size, fun i hi hf => h.block i hi (fun hg => hf (hs i hg))⟩
theorem Mod.any (h : Mod none_ w w') (G : Nat → Prop) : Mod G w w' := h.mono fun _ hh => hh.elim
theorem Mod.drew (h : Mod F w w') : Mod F w w'.drew := ⟨h.os, h.tape, h.output, h.size, h.block⟩
theorem Mod.drewN (h : Mod F w w') (n : Nat) : Mod F w (w'.drewN n) := ⟨h.os, h.tape, h.output, h.size, h.block⟩
theorem Mod.alloc (h : Mod F w w') (o : Obj) : Mod F w (w'.alloc o) :=
  ⟨h.os, h.tape, h.output, Nat.le_trans h.size (by simp), fun i hi hf => (Below.heap_alloc w' o i (Nat.lt_of_lt_of_le hi h.size)).trans (h.block i hi hf)⟩
theorem Mod.setCell (h : Mod F w w') {p : Addr} (hp : F p.block ∨ w.heap.size ≤ p.block) (u : Value) : Mod F w (w'.setCell p u) :=
  ⟨h.os, h.tape, h.output, by simpa [World.setCell] using h.size, fun i hi hf => (Below.heap_setCell w' p u i (by
    rintro rfl
    rcases hp with hp | hp
    · exact hf hp
    · omega)).trans (h.block i hi hf)⟩
theorem Mod.below (h : Mod F w w') {B : Nat} (hB : B ≤ w.heap.size) (hF : ∀ k, F k → B ≤ k) : Below B w w' :=
  ⟨h.os, h.tape, h.output, h.size, fun k hk => h.block k (by omega) (fun hf => by have := hF k hf; omega)⟩
theorem Mod.below0 (h : Mod none_ w w') : Below w.heap.size w w' := h.below (Nat.le_refl _) fun _ hh => hh.elim
theorem Mod.of_below (h : Below w.heap.size w w') : Mod none_ w w' := ⟨h.os, h.tape, h.output, h.size, fun k hk _ => h.block k hk⟩
theorem Mod.cell (h : Mod F w w') {a : Addr} (hlt : a.block < w.heap.size) (hf : ¬ F a.block) : w'.cell? a = w.cell? a := World.cell?_of_block (w := w) (h.block a.block hlt hf)
theorem Mod.frozen (h : Mod F w w') {a : Addr} (hlt : a.block < w.heap.size) (hf : ¬ F a.block) : w'.frozen? a = w.frozen? a := World.frozen?_of_block (w := w) (h.block a.block hlt hf)
theorem Mod.cell_some (h : Mod F w w') {a : Addr} {v : Value} (hc : w.cell? a = some v) (hf : ¬ F a.block) : w'.cell? a = some v := (h.cell (World.block_lt_of_cell? w a hc) hf).trans hc
theorem Mod.of_grown {row : Option Nat} (h : w.grownBy w' row) : Mod (fun k => row = some k) w w' :=
  ⟨h.os, h.tape, h.output, h.size, fun k hk hn => h.block k hk (fun e => hn e.symm)⟩
end

/-- A block known whole. -/
def Blk (w : World) (g : Nat) (t : TypeId) (cs : Array Value) : Prop := w.heap[g]? = some (.cells cs t (0, 0))
section
variable {F : Nat → Prop} {w w' : World} {g : Nat} {t : TypeId} {cs : Array Value}
theorem Blk.lt (h : Blk w g t cs) : g < w.heap.size := by
  rcases Nat.lt_or_ge g w.heap.size with hlt | hge
  · exact hlt
  · unfold Blk at h; rw [Array.getElem?_eq_none hge] at h; cases h
theorem Blk.cell (h : Blk w g t cs) (i : Nat) : w.cell? ⟨g, i, none⟩ = cs[i]? := cell_of_row w g i cs t (0, 0) h
theorem Blk.cell_ {i : Nat} {v : Value} (h : Blk w g t cs) (hv : cs[i]? = some v) : w.cell? ⟨g, i, none⟩ = some v := (h.cell i).trans hv
theorem Blk.frozen (h : Blk w g t cs) (i : Nat) : w.frozen? ⟨g, i, none⟩ = false := by
  unfold Blk at h
  simp [World.frozen?, h]
theorem Blk.new (w : World) (t : TypeId) (cs : Array Value) : Blk (w.alloc (.cells cs t)) w.heap.size t cs := heap_alloc_new w _
theorem Blk.drew (h : Blk w g t cs) : Blk w.drew g t cs := h
theorem Blk.drewN (h : Blk w g t cs) (n : Nat) : Blk (w.drewN n) g t cs := h
theorem Blk.alloc (h : Blk w g t cs) (o : Obj) : Blk (w.alloc o) g t cs := (Below.heap_alloc w o g h.lt).trans h
theorem Blk.set_ (h : Blk w g t cs) (i : Nat) (u : Value) : Blk (w.setCell ⟨g, i, none⟩ u) g t (cs.setIfInBounds i u) := by
  unfold Blk at h ⊢
  simp [World.setCell, Array.getElem?_modify, h]
theorem Blk.far (h : Blk w g t cs) {p : Addr} (hp : g ≠ p.block) (u : Value) : Blk (w.setCell p u) g t cs := (Below.heap_setCell w p u g hp).trans h
theorem Blk.mod (h : Blk w g t cs) (hm : Mod F w w') (hg : ¬ F g) : Blk w' g t cs := (hm.block g h.lt hg).trans h
theorem Blk.ne_ {g' : Nat} {t' : TypeId} {cs' : Array Value} (h : Blk w g t cs) (h' : Blk w g' t' cs') (hne : t ≠ t') : g ≠ g' := by
  rintro rfl
  unfold Blk at h h'
  rw [h] at h'
  injection h' with h'
  injection h' with _ ht
  exact hne ht
end

theorem block_of_add (a : Addr) (n : Nat) : (a.add n).block = a.block := by unfold Addr.add; split <;> rfl
theorem add_of_add (a : Addr) (i j : Nat) : (a.add i).add j = a.add (i + j) := by
  unfold Addr.add
  by_cases hi : i = 0 <;> by_cases hj : j = 0 <;> simp [hi, hj, Nat.add_assoc]
theorem add_zero_ (a : Addr) : a.add 0 = a := rfl
theorem map_add_zero (A : Option Addr) : A.map (fun x => x.add 0) = A := by cases A <;> rfl
theorem add_lit (g j : Nat) : (⟨g, 0, none⟩ : Addr).add j = ⟨g, j, none⟩ := by unfold Addr.add; split <;> simp_all

/-- The slice '.slice A n _' of elements of 'size' cells holds the cells xs (read only). -/
def Rd (w : World) (size : Nat) (A : Option Addr) (n : Nat) (xs : List Value) : Prop :=
  xs.length = n * size ∧ (0 < n → ∃ ad, A = some ad ∧ ∀ j u, xs[j]? = some u → w.cell? (ad.add j) = some u)
section
variable {F : Nat → Prop} {w w' : World} {size n : Nat} {A : Option Addr} {xs : List Value}
theorem Rd.none_ : Rd w size A 0 [] := ⟨by simp, fun h => absurd h (by omega)⟩
theorem Rd.at_ {k : Nat} (h : Rd w 1 A n xs) (hk : k < n) : ∃ ad u, A = some ad ∧ xs[k]? = some u ∧ w.cell? (ad.add k) = some u := by
  obtain ⟨ad, e, hc⟩ := h.2 (by omega)
  have hl : k < xs.length := by have := h.1; omega
  exact ⟨ad, xs[k], e, List.getElem?_eq_getElem hl, hc k _ (List.getElem?_eq_getElem hl)⟩
theorem Rd.mod (h : Rd w size A n xs) (hm : Mod F w w') (hF : ∀ k, fp A k → ¬ F k) : Rd w' size A n xs :=
  ⟨h.1, fun hn => by
    obtain ⟨ad, e, hc⟩ := h.2 hn
    exact ⟨ad, e, fun j u hu => hm.cell_some (hc j u hu) (by rw [block_of_add]; exact hF _ ⟨ad, e, rfl⟩)⟩⟩
theorem Rd.mod0 (h : Rd w size A n xs) (hm : Mod Go.Proofs.YtimlfdihodoolaaGreat.none_ w w') : Rd w' size A n xs := h.mod hm fun _ _ hh => hh
theorem Rd.drewN (h : Rd w size A n xs) (k : Nat) : Rd (w.drewN k) size A n xs := h
theorem Rd.alloc (h : Rd w size A n xs) (o : Obj) : Rd (w.alloc o) size A n xs := h.mod0 ((Mod.refl _ w).alloc o)
theorem Rd.drop_ (h : Rd w size A n xs) {k cap : Nat} (hk : k ≤ n) (hc : n ≤ cap) :
    Rd w size (if cap = k then A else A.map (·.add (k * size))) (n - k) (xs.drop (k * size)) := by
  refine ⟨by rw [List.length_drop, h.1, Nat.sub_mul], fun hn => ?_⟩
  obtain ⟨ad, rfl, hcell⟩ := h.2 (by omega)
  rw [if_neg (by omega)]
  refine ⟨ad.add (k * size), rfl, fun j u hu => ?_⟩
  rw [add_of_add]
  exact hcell _ u (by rw [← hu, List.getElem?_drop])
theorem Rd.take_ (h : Rd w size A n xs) {k : Nat} (hk : k ≤ n) : Rd w size A k (xs.take (k * size)) := by
  refine ⟨by rw [List.length_take, h.1]; exact Nat.min_eq_left (Nat.mul_le_mul_right _ hk), fun hn => ?_⟩
  obtain ⟨ad, rfl, hcell⟩ := h.2 (by omega)
  refine ⟨ad, rfl, fun j u hu => hcell j u ?_⟩
  rw [List.getElem?_take] at hu
  split at hu
  · exact hu
  · cases hu
/-- Where there is an element the address is a plain one. -/
theorem Rd.form (h : Rd w size A n xs) (hn : 0 < n) (hs : 0 < size) : ∃ b o, A = some ⟨b, o, none⟩ ∧ ∀ j u, xs[j]? = some u → w.cell? ⟨b, o + j, none⟩ = some u := by
  obtain ⟨ad, rfl, hc⟩ := h.2 hn
  have hl : 0 < xs.length := by rw [h.1]; exact Nat.mul_pos hn hs
  have h0 := hc 0 _ (List.getElem?_eq_getElem hl)
  rw [add_zero_] at h0
  obtain ⟨b, o, sp⟩ := ad
  cases sp with
  | some x => simp [World.cell?] at h0; split at h0 <;> simp at h0
  | none =>
    refine ⟨b, o, rfl, fun j u hu => ?_⟩
    have := hc j u hu
    have e : (⟨b, o, none⟩ : Addr).add j = ⟨b, o + j, none⟩ := by unfold Addr.add; split <;> simp_all
    rwa [e] at this
theorem Rd.lt (h : Rd w 1 A n xs) (hn : 0 < n) : ∀ k, fp A k → k < w.heap.size := by
  rintro k ⟨a, e, rfl⟩
  obtain ⟨ad, u, e', _, hc⟩ := h.at_ hn
  rw [e] at e'
  injection e' with e'
  subst e'
  exact World.block_lt_of_cell? w _ hc
end

theorem Rd.mod' {F : Nat → Prop} {w w' : World} {size n : Nat} {A : Option Addr} {xs : List Value} (h : Rd w size A n xs) (hm : Mod F w w') (hF : 0 < n → ∀ k, fp A k → ¬ F k) : Rd w' size A n xs :=
  ⟨h.1, fun hn => by
    obtain ⟨ad, e, hc⟩ := h.2 hn
    exact ⟨ad, e, fun j u hu => hm.cell_some (hc j u hu) (by rw [block_of_add]; exact hF hn _ ⟨ad, e, rfl⟩)⟩⟩

/-- A row of the call's own: it may be appended to and stored into. -/
def Ow (w : World) (e : TypeId) (size : Nat) (A : Option Addr) (n c : Nat) (xs : List Value) : Prop :=
  xs.length = n * size ∧ n ≤ c ∧ c ≤ maxLen ∧
    ((A = none ∧ n = 0 ∧ c = 0) ∨ ∃ g cur, A = some ⟨g, 0, none⟩ ∧ Blk w g e cur ∧ c * size ≤ cur.size ∧ cur.toList.take (n * size) = xs)
section
variable {F : Nat → Prop} {w w' : World} {e : TypeId} {size n c : Nat} {A : Option Addr} {xs : List Value}
theorem Ow.nil (w : World) (e : TypeId) (size : Nat) : Ow w e size none 0 0 [] := ⟨by simp, Nat.le_refl _, Nat.zero_le _, .inl ⟨rfl, rfl, rfl⟩⟩
theorem Ow.mod (h : Ow w e size A n c xs) (hm : Mod F w w') (hF : ∀ k, fp A k → ¬ F k) : Ow w' e size A n c xs := by
  obtain ⟨h1, h2, h3, h4⟩ := h
  refine ⟨h1, h2, h3, ?_⟩
  rcases h4 with h4 | ⟨g, cur, rfl, hb, h5⟩
  · exact .inl h4
  · exact .inr ⟨g, cur, rfl, hb.mod hm (hF g ⟨_, rfl, rfl⟩), h5⟩
theorem Ow.mod0 (h : Ow w e size A n c xs) (hm : Mod none_ w w') : Ow w' e size A n c xs := h.mod hm fun _ _ hh => hh
theorem Ow.rd (h : Ow w e size A n c xs) : Rd w size A n xs := by
  obtain ⟨h1, h2, _, h4⟩ := h
  refine ⟨h1, fun hn => ?_⟩
  rcases h4 with ⟨_, h5, _⟩ | ⟨g, cur, rfl, hb, h5, h6⟩
  · omega
  · refine ⟨_, rfl, fun j u hu => ?_⟩
    rw [add_lit, hb.cell]
    rw [← h6, List.getElem?_take] at hu
    split at hu
    · simpa using hu
    · cases hu
theorem Ow.lt (h : Ow w e size A n c xs) : ∀ k, fp A k → k < w.heap.size := by
  rintro k ⟨a, ha, rfl⟩
  rcases h.2.2.2 with ⟨h4, _⟩ | ⟨g, cur, h4, hb, _⟩
  · rw [h4] at ha; cases ha
  · rw [h4] at ha; cases ha; exact hb.lt
theorem Ow.ne_blk (h : Ow w e size A n c xs) {g : Nat} {t : TypeId} {cs : Array Value} (hb : Blk w g t cs) (hne : e ≠ t) : ¬ fp A g := by
  rintro ⟨a, ha, rfl⟩
  rcases h.2.2.2 with ⟨h4, _⟩ | ⟨g, cur, h4, hb', _⟩
  · rw [h4] at ha; cases ha
  · rw [h4] at ha; cases ha; exact hb'.ne_ hb hne rfl
theorem Ow.take_ (h : Ow w e size A n c xs) {k : Nat} (hk : k ≤ n) : Ow w e size A k c (xs.take (k * size)) := by
  obtain ⟨h1, h2, h3, h4⟩ := h
  refine ⟨by rw [List.length_take, h1]; exact Nat.min_eq_left (Nat.mul_le_mul_right _ hk), by omega, h3, ?_⟩
  rcases h4 with ⟨rfl, rfl, rfl⟩ | ⟨g, cur, rfl, hb, h5, h6⟩
  · exact .inl ⟨rfl, by omega, rfl⟩
  · refine .inr ⟨g, cur, rfl, hb, h5, ?_⟩
    rw [← h6, List.take_take, Nat.min_eq_left (Nat.mul_le_mul_right _ hk)]
theorem Ow.clip (h : Ow w e size A n c xs) {c' : Nat} (h1 : n ≤ c') (h2 : c' ≤ c) : Ow w e size A n c' xs := by
  obtain ⟨a1, a2, a3, a4⟩ := h
  refine ⟨a1, h1, Nat.le_trans h2 a3, ?_⟩
  rcases a4 with ⟨rfl, rfl, rfl⟩ | ⟨g, cur, rfl, hb, h5, h6⟩
  · exact .inl ⟨rfl, rfl, by omega⟩
  · exact .inr ⟨g, cur, rfl, hb, Nat.le_trans (Nat.mul_le_mul_right _ h2) h5, h6⟩
theorem Ow.new (w : World) (e : TypeId) (size n : Nat) (cs : Array Value) (hn : n ≤ maxLen) (hs : cs.size = n * size) : Ow (w.alloc (.cells cs e)) e size (some ⟨w.heap.size, 0, none⟩) n n cs.toList :=
  ⟨by simpa using hs, Nat.le_refl _, hn, .inr ⟨_, cs, rfl, Blk.new w e cs, by omega, by rw [← hs, ← Array.length_toList, List.take_length]⟩⟩
/-- Where there is an element the row is a block. -/
theorem Ow.form (h : Ow w e size A n c xs) (hn : 0 < n) : ∃ g cur, A = some ⟨g, 0, none⟩ ∧ Blk w g e cur ∧ c * size ≤ cur.size ∧ cur.toList.take (n * size) = xs := by
  rcases h.2.2.2 with ⟨_, h0, _⟩ | ⟨g, cur, h4, hb, h5⟩
  · omega
  · exact ⟨g, cur, h4, hb, h5⟩
theorem Ow.cell_ (h : Ow w e size A n c xs) {g : Nat} (hA : A = some ⟨g, 0, none⟩) (j : Nat) (hj : j < n * size) : w.cell? ⟨g, j, none⟩ = xs[j]? := by
  rcases h.2.2.2 with ⟨h4, _⟩ | ⟨g', cur, h4, hb, h5, h6⟩
  · rw [hA] at h4; cases h4
  · rw [hA] at h4; cases h4
    rw [hb.cell, ← h6, List.getElem?_take, if_pos hj]; simp
theorem Ow.free (h : Ow w e size A n c xs) {g : Nat} (hA : A = some ⟨g, 0, none⟩) (j : Nat) : w.frozen? ⟨g, j, none⟩ = false := by
  rcases h.2.2.2 with ⟨h4, _⟩ | ⟨g', cur, h4, hb, h5, h6⟩
  · rw [hA] at h4; cases h4
  · rw [hA] at h4; cases h4; exact hb.frozen j
/-- A store of one cell. -/
theorem Ow.set_ (h : Ow w e size A n c xs) {g : Nat} (hA : A = some ⟨g, 0, none⟩) (j : Nat) (u : Value) : Ow (w.setCell ⟨g, j, none⟩ u) e size A n c (xs.set j u) := by
  obtain ⟨h1, h2, h3, h4⟩ := h
  refine ⟨by simpa using h1, h2, h3, ?_⟩
  rcases h4 with ⟨h4, _⟩ | ⟨g', cur, h4, hb, h5, h6⟩
  · rw [hA] at h4; cases h4
  · rw [hA] at h4; cases h4
    refine .inr ⟨g, _, hA, hb.set_ j u, by simpa using h5, ?_⟩
    rw [← h6]
    apply List.ext_getElem?
    intro i
    simp only [List.getElem?_take, List.getElem?_set, Array.toList_setIfInBounds, List.length_take]
    by_cases hi : i < n * size
    · simp only [hi, if_true]
      by_cases hj : j = i
      · subst hj
        have hl : j < cur.size := by
          have := Nat.mul_le_mul_right size h2
          omega
        simp [hl]; omega
      · simp [hj]
    · simp only [hi, if_false]
      by_cases hj : j = i
      · subst hj; simp; omega
      · simp [hj]
end

section
variable {P : Program}
/-- append onto a row of the call's own, whatever the source (nil too). -/
theorem run_append_ow (w : World) (t ty e : TypeId) (i : TypeInfo) (z : Value) (size bytes : Nat) (ht : P.underlying t = some (.slice e)) (hi : P.info? e = some i) (hz : i.zero = some z)
    (hsize : i.size = size) (hby : i.bytes = bytes) (hzs : z.cells.size = size) (hsz : 0 < size)
    (A : Option Addr) (n c : Nat) (xs : List Value) (hown : Ow w e size A n c xs)
    (S : Option Addr) (m d : Nat) (news : List Value) (hr : Rd w size S m news) (h1 : ∀ u ∈ news, u.oneCell' = true)
    (hbytes : (n + m) * bytes ≤ 140737488355328) (h63 : n + m ≤ 9223372036854775807) :
    ∃ A' c' w', (Builtin.append_ #[t, t] ty #[.slice A n c, .slice S m d]).run P w = .ok (.slice A' (n + m) c') w' ∧ Ow w' e size A' (n + m) c' (xs ++ news) ∧ Mod (fp A) w w' ∧
      (A' = A ∨ A' = some ⟨w.heap.size, 0, none⟩) := by
  subst hsize
  subst hby
  have hlen : (xs ++ news).length = (n + m) * i.size := by rw [List.length_append, hown.1, hr.1, Nat.add_mul]
  have hmax : n + m ≤ maxLen := by simp only [maxLen]; omega
  obtain ⟨hx1, hnc, hcm, hcase⟩ := hown
  -- what a new row holds
  have grown : ∀ (old : Nat), old < n + m →
      Ow (w.drew.alloc (.cells (xs.toArray ++ news.toArray ++ Builtin.zeroCells z.cells (grownCap w (n + m) old e - (n + m))) e)) e i.size
        (some ⟨w.heap.size, 0, none⟩) (n + m) (grownCap w (n + m) old e) (xs ++ news) ∧
      Mod (fp A) w (w.drew.alloc (.cells (xs.toArray ++ news.toArray ++ Builtin.zeroCells z.cells (grownCap w (n + m) old e - (n + m))) e)) := by
    intro old ho
    have hge := grownCap_ge w (n + m) old e
    have hcm : grownCap w (n + m) old e ≤ maxLen := grownCap_le_maxLen w (n + m) old e hmax
    refine ⟨⟨hlen, hge, hcm, .inr ⟨w.heap.size, _, rfl, heap_alloc_new w.drew _, ?_, ?_⟩⟩, (Mod.refl _ w).drew.alloc _⟩
    · simp only [Array.size_append, List.size_toArray, size_zeroCells, hzs, hx1, hr.1, ← Nat.add_mul]
      exact Nat.mul_le_mul_right _ (by omega)
    · simp only [Array.toList_append, List.append_assoc]
      rw [← List.append_assoc, ← hlen]
      exact List.take_left
  by_cases hm : m = 0
  · subst hm
    have hn : news = [] := List.eq_nil_of_length_eq_zero (by simpa using hr.1)
    subst hn
    have hrun : (Builtin.append_ #[t, t] ty #[.slice A n c, .slice S 0 d]).run P w = .ok (.slice A n c) w := by
      have hf : ∀ S : Option Addr, (Builtin.firstCells i.size 0 (.slice S 0 d)).run P w = .ok #[] w := by
        intro S; cases S <;> simp [Builtin.firstCells, loadCells, loadCellsFrom]
      rcases hcase with ⟨rfl, rfl, rfl⟩ | ⟨g, cur, rfl, hb, h5, h6⟩
      · simp [Builtin.append_, run_underlying ht, sizeOf, typeInfo, hi, Builtin.lenOf, hf]
      · simp [Builtin.append_, run_underlying ht, sizeOf, typeInfo, hi, Builtin.lenOf, hf, hnc, storeCells]
    refine ⟨A, c, w, by simpa using hrun, ?_, Mod.refl _ w, .inl rfl⟩
    simp only [Nat.add_zero, List.append_nil]
    exact ⟨hx1, hnc, hcm, hcase⟩
  · obtain ⟨ad, rfl, hnews⟩ := hr.2 (by omega)
    rcases hcase with ⟨rfl, rfl, rfl⟩ | ⟨g, cur, rfl, hb, h5, h6⟩
    · have hx : xs = [] := List.eq_nil_of_length_eq_zero (by simpa using hx1)
      subst hx
      have hrun := run_append_nil (P := P) w t ty e i z ht hi hz ad m d news hr.1 hnews (by omega) (by omega) (by have hb := hbytes; simp only [Nat.zero_add] at hb; omega)
      have hgr := grown 0 (by omega)
      simp only [Nat.zero_add, List.nil_append, Array.empty_append] at hgr ⊢
      exact ⟨_, _, _, hrun, hgr.1, hgr.2, .inr rfl⟩
    · by_cases hroom : n + m ≤ c
      · have hfit : n * i.size + news.length ≤ cur.size := by
          rw [hr.1, ← Nat.add_mul]
          exact Nat.le_trans (Nat.mul_le_mul_right _ hroom) h5
        have hrun := run_append_room (P := P) w t ty e i ht hi g n c cur hb ad m d news hr.1 hnews h1 hroom hfit
        refine ⟨_, _, _, hrun, ⟨hlen, hroom, hcm, .inr ⟨g, _, rfl, setRow_heap w g cur _ e _ hb, ?_, ?_⟩⟩, ⟨rfl, rfl, rfl, by simp, fun k hk hf => setRow_other w g k _ (fun e => hf ⟨_, rfl, e.symm⟩)⟩, .inl rfl⟩
        · simp only [List.size_toArray, List.length_append, List.length_take, List.length_drop, Array.length_toList]
          omega
        · rw [h6, ← hlen]
          exact List.take_left
      · have holds : ∀ j u, xs[j]? = some u → w.cell? ((⟨g, 0, none⟩ : Addr).add j) = some u := by
          intro j u hu
          rw [add_lit, Blk.cell hb]
          rw [← h6, List.getElem?_take] at hu
          split at hu
          · simpa using hu
          · cases hu
        have hrun := run_append_grow (P := P) w t ty e i z ht hi hz ⟨g, 0, none⟩ n c xs hx1 holds ad m d news hr.1 hnews (by omega) (by omega) (growslice_fits (by omega) hbytes)
        have hgr := grown c (by omega)
        exact ⟨_, _, _, hrun, hgr.1, hgr.2, .inr rfl⟩

theorem wp_append_ow (w : World) {o : Oper} {a : Act} {K : Act → World → Prop} {Q : Exit → Act → World → Prop} (s x : Operand) (t : TypeId)
    (ho : o.op = .call { callee := .builtin .append, args := #[s, x], argTypes := #[t, t] })
    (e : TypeId) (i : TypeInfo) (z : Value) (size bytes : Nat) (ht : P.underlying t = some (.slice e)) (hi : P.info? e = some i) (hz : i.zero = some z)
    (hsize : i.size = size) (hby : i.bytes = bytes) (hzs : z.cells.size = size) (hsz : 0 < size)
    (A : Option Addr) (n c : Nat) (xs : List Value) (hs : a.eval s = .slice A n c) (hown : Ow w e size A n c xs)
    (S : Option Addr) (m d : Nat) (news : List Value) (hx : a.eval x = .slice S m d) (hr : Rd w size S m news) (h1 : ∀ u ∈ news, u.oneCell' = true)
    (hbytes : (n + m) * bytes ≤ 140737488355328) (h63 : n + m ≤ 9223372036854775807)
    (h : ∀ A' c' w', Ow w' e size A' (n + m) c' (xs ++ news) → Mod (fp A) w w' → (A' = A ∨ A' = some ⟨w.heap.size, 0, none⟩) → K (a.put o.dst (.slice A' (n + m) c')) w') : o.wp P a w K Q := by
  obtain ⟨A', c', w', hrun, h2, h3, h4⟩ := run_append_ow (P := P) w t o.type e i z size bytes ht hi hz hsize hby hzs hsz A n c xs hown S m d news hr h1 hbytes h63
  unfold Oper.wp execOp
  simp only [ho, resolve, invoke, builtin, Sem.run_bind, Sem.run_pure, Result.andThen_ok, List.map_toArray, List.map_cons, List.map_nil, hs, hx, hrun]
  exact h A' c' w' h2 h3 h4

/-- .. as an arm of the walk, behind 'at_builtin'. -/
theorem wpList_append_ow {w : World} {ops : Array Oper} {rest : List Oper} {o : Oper} {a : Act} {Q : Exit → Act → World → Prop} (hgd : o.guard = none) (s x : Operand) (t : TypeId)
    (ho : o.op = .call { callee := .builtin .append, args := #[s, x], argTypes := #[t, t] })
    (e : TypeId) (i : TypeInfo) (z : Value) (size bytes : Nat) (ht : P.underlying t = some (.slice e)) (hi : P.info? e = some i) (hz : i.zero = some z)
    (hsize : i.size = size) (hby : i.bytes = bytes) (hzs : z.cells.size = size) (hsz : 0 < size)
    (A : Option Addr) (n c : Nat) (xs : List Value) (hs : a.eval s = .slice A n c) (hown : Ow w e size A n c xs)
    (S : Option Addr) (m d : Nat) (news : List Value) (hx : a.eval x = .slice S m d) (hr : Rd w size S m news) (h1 : ∀ u ∈ news, u.oneCell' = true)
    (hbytes : (n + m) * bytes ≤ 140737488355328) (h63 : n + m ≤ 9223372036854775807)
    (h : ∀ A' c' w', Ow w' e size A' (n + m) c' (xs ++ news) → Mod (fp A) w w' → (A' = A ∨ A' = some ⟨w.heap.size, 0, none⟩) → wpList P ops Q rest (a.put o.dst (.slice A' (n + m) c')) w') : wpList P ops Q (o :: rest) a w :=
  wpList_plain hgd fun _ hK => wp_append_ow w s x t ho e i z size bytes ht hi hz hsize hby hzs hsz A n c xs hs hown S m d news hx hr h1 hbytes h63 fun A' c' w' h2 h3 h4 => hK _ _ (h A' c' w' h2 h3 h4)

/-- .. as a step of a region that draws. -/
theorem step_append_ow {w : World} {ops : Array Oper} {o : Oper} {a : Act} {K : Act → World → Prop} {Q : Exit → Act → World → Prop} {E : Prop} (hgd : o.guard = none) (s x : Operand) (t : TypeId)
    (ho : o.op = .call { callee := .builtin .append, args := #[s, x], argTypes := #[t, t] })
    (e : TypeId) (i : TypeInfo) (z : Value) (size bytes : Nat) (ht : P.underlying t = some (.slice e)) (hi : P.info? e = some i) (hz : i.zero = some z)
    (hsize : i.size = size) (hby : i.bytes = bytes) (hzs : z.cells.size = size) (hsz : 0 < size)
    (A : Option Addr) (n c : Nat) (xs : List Value) (hs : a.eval s = .slice A n c) (hown : Ow w e size A n c xs)
    (S : Option Addr) (m d : Nat) (news : List Value) (hx : a.eval x = .slice S m d) (hr : Rd w size S m news) (h1 : ∀ u ∈ news, u.oneCell' = true)
    (hbytes : (n + m) * bytes ≤ 140737488355328) (h63 : n + m ≤ 9223372036854775807)
    (h : ∀ A' c' w', Ow w' e size A' (n + m) c' (xs ++ news) → Mod (fp A) w w' → (A' = A ∨ A' = some ⟨w.heap.size, 0, none⟩) → K (a.put o.dst (.slice A' (n + m) c')) w') :
    if Region.wanted o (yielded ops a.tmps) = true then Oper.wp P o a w K Q else E := by
  have hw : Region.wanted o (yielded ops a.tmps) = true := by simp [Region.wanted, hgd]
  rw [if_pos hw]
  exact wp_append_ow w s x t ho e i z size bytes ht hi hz hsize hby hzs hsz A n c xs hs hown S m d news hx hr h1 hbytes h63 h
end

/- BYTES. -/
def bv (b : UInt8) : Value := .int .u8 (b.toNat : Int)
def bvs (l : List UInt8) : List Value := l.map bv
theorem bvs_length (l : List UInt8) : (bvs l).length = l.length := by simp [bvs]
theorem bvs_append (a b : List UInt8) : bvs (a ++ b) = bvs a ++ bvs b := by simp [bvs]
theorem bvs_take (a : List UInt8) (k : Nat) : bvs (a.take k) = (bvs a).take k := by simp [bvs, List.map_take]
theorem bvs_drop (a : List UInt8) (k : Nat) : bvs (a.drop k) = (bvs a).drop k := by simp [bvs, List.map_drop]
theorem bvs_one (l : List UInt8) : ∀ u ∈ bvs l, u.oneCell' = true := by
  intro u hu
  simp only [bvs, List.mem_map] at hu
  obtain ⟨b, _, rfl⟩ := hu
  rfl
theorem bvs_get {l : List UInt8} {k : Nat} (h : k < l.length) : (bvs l)[k]? = some (.int .u8 (l[k].toNat : Int)) := by simp [bvs, bv, h]
theorem bvs_set (l : List UInt8) (k : Nat) (b : UInt8) : bvs (l.set k b) = (bvs l).set k (bv b) := by simp [bvs, List.map_set]
def ivs (l : List Int) : List Value := l.map (.int .i64 ·)
theorem ivs_length (l : List Int) : (ivs l).length = l.length := by simp [ivs]
theorem ivs_append (a b : List Int) : ivs (a ++ b) = ivs a ++ ivs b := by simp [ivs]
theorem ivs_one (l : List Int) : ∀ u ∈ ivs l, u.oneCell' = true := by
  intro u hu
  simp only [ivs, List.mem_map] at hu
  obtain ⟨b, _, rfl⟩ := hu
  rfl
theorem ivs_get {l : List Int} {k : Nat} (h : k < l.length) : (ivs l)[k]? = some (.int .i64 l[k]) := by simp [ivs, h]

/-- Read-only bytes; bytes of the call's own. -/
def RdB (w : World) (A : Option Addr) (n : Nat) (l : List UInt8) : Prop := Rd w 1 A n (bvs l)
def OwB (w : World) (e : TypeId) (A : Option Addr) (n c : Nat) (l : List UInt8) : Prop := Ow w e 1 A n c (bvs l)
theorem RdB.len {w : World} {A : Option Addr} {n : Nat} {l : List UInt8} (h : RdB w A n l) : l.length = n := by have := h.1; rw [bvs_length] at this; omega
theorem OwB.len {w : World} {e : TypeId} {A : Option Addr} {n c : Nat} {l : List UInt8} (h : OwB w e A n c l) : l.length = n := by have := h.1; rw [bvs_length] at this; omega

/-- The text of bytes. -/
def txt (l : List UInt8) : ByteArray := ⟨l.toArray⟩
@[simp, go_sem] theorem txt_toList (l : List UInt8) : (txt l).toList = l := ByteArray.toList_mk l

/-- 'string(b)'. -/
theorem run_string_of_bytes {P : Program} (w : World) (src dst e : TypeId) (hs : P.underlying src = some (.slice e)) (he : P.underlying e = some (.int .u8)) (hd : P.underlying dst = some .string)
    (A : Option Addr) (n c : Nat) (l : List UInt8) (h : RdB w A n l) : (convert src dst (.slice A n c)).run P w = .ok (.string (txt l)) w := by
  rw [run_convert_bytes_string w src dst e _ n c hs he hd]
  rcases A with _ | ad
  · have hl : l = [] := by
      rcases Nat.eq_zero_or_pos n with h0 | h0
      · exact List.eq_nil_of_length_eq_zero (by rw [h.len, h0])
      · obtain ⟨ad, h, _⟩ := h.2 h0; cases h
    subst hl
    simp [Conv.bytesToString]; rfl
  · have hcells : ∀ j u, (bvs l)[j]? = some u → w.cell? (ad.add j) = some u := by
      intro j u hu
      rcases Nat.eq_zero_or_pos n with h0 | h0
      · have : l = [] := List.eq_nil_of_length_eq_zero (by rw [h.len, h0])
        subst this; simp [bvs] at hu
      · obtain ⟨ad', h', hc⟩ := h.2 h0
        injection h' with h'
        subst h'
        exact hc j u hu
    have hl : (loadCells ad n).run P w = .ok ((l.map fun b => (b.toNat : Int)).map (Value.int .u8)).toArray w := by
      have := run_loadCells_list (P := P) w ad (bvs l) hcells
      rw [bvs_length, h.len] at this
      rw [this]
      simp [bvs, bv, Function.comp_def]
    rw [run_bytesToString w ad n c _ hl, foldl_push_bytes]
    simp [txt, ByteArray.empty, ByteArray.emptyWithCapacity, Function.comp_def]
    rfl
end Go.Proofs.YtimlfdihodoolaaGreat
/-
  More words for memory: a new block that reads as a list; a slice expression of bytes; strings of bytes; where rows lie apart. No condition.
-/
namespace Go.Proofs.YtimlfdihodoolaaGreat
set_option linter.unusedVariables false
set_option linter.unusedSimpArgs false
open Go.RowKit
theorem rdn (w : World) (e : TypeId) (size n g : Nat) (cs : Array Value) (fr : Nat × Nat) (hg : g = w.heap.size) (hs : cs.size = n * size) : Rd (w.alloc (.cells cs e fr)) size (some ⟨g, 0, none⟩) n cs.toList := by
  subst hg
  refine ⟨by simpa using hs, fun _ => ⟨_, rfl, fun j u hu => ?_⟩⟩
  rw [add_lit, World.cell?_alloc_mark]
  simpa using hu
theorem rdb_take {A : Option Addr} {w : World} {n : Nat} {l : List UInt8} (h : RdB w A n l) {k : Nat} (hk : k ≤ n) : RdB w A k (l.take k) := by
  have := Rd.take_ h hk
  rwa [Nat.mul_one, ← bvs_take] at this
theorem rdb_drop {A : Option Addr} {w : World} {n c : Nat} {l : List UInt8} (h : RdB w A n l) {k : Nat} (hk : k ≤ n) (hc : n ≤ c) : RdB w (if c = k then A else A.map (·.add k)) (n - k) (l.drop k) := by
  have := Rd.drop_ h hk hc
  rwa [Nat.mul_one, ← bvs_drop] at this
theorem wrap_u64_lt (n : Int) : 0 ≤ IntKind.u64.wrap n ∧ IntKind.u64.wrap n < 18446744073709551616 := by
  rw [IntKind.wrap_u64]; omega
/-- 'int(uint(x) % uint(m))'. -/
theorem umod (x m : Int) (h0 : 0 < m) (h1 : m ≤ 4611686018427387904) : ∃ k : Nat, (k : Int) < m ∧ wrap64 ((IntKind.u64.wrap x).tmod m) = (k : Int) := by
  have hx := (wrap_u64_lt x).1
  generalize IntKind.u64.wrap x = q at hx
  have e : q.tmod m = q % m := Int.tmod_eq_emod_of_nonneg hx
  have l1 := Int.emod_nonneg q (b := m) (by omega)
  have l2 := Int.emod_lt_of_pos q h0
  refine ⟨(q % m).toNat, by omega, ?_⟩
  rw [e, IntWalk.wrap64_in _ ⟨by omega, by omega⟩]
  omega
theorem Ow.ne_ow {w : World} {e e' : TypeId} {s s' n n' c c' : Nat} {A A' : Option Addr} {xs xs' : List Value} (h : Ow w e s A n c xs) (h' : Ow w e' s' A' n' c' xs') (hne : e ≠ e') : ∀ k, fp A k → ¬ fp A' k := by
  rintro k ⟨a, ha, rfl⟩ ⟨b, hb, hab⟩
  rcases h.2.2.2 with ⟨h4, _⟩ | ⟨g, cur, h4, hg, _⟩
  · rw [h4] at ha; cases ha
  · rw [h4] at ha; cases ha
    rcases h'.2.2.2 with ⟨h4, _⟩ | ⟨g', cur', h4, hg', _⟩
    · rw [h4] at hb; cases hb
    · rw [h4] at hb; cases hb
      simp only at hab
      subst hab
      exact hg.ne_ hg' hne rfl
theorem Fresh.apart {w : World} {A : Option Addr} (h : Fresh w A) {F : Nat → Prop} (hF : ∀ k, F k → k < w.heap.size) : ∀ k, fp A k → ¬ F k := by
  rintro k ⟨a, ha, rfl⟩ hf
  have := h a ha
  have := hF _ hf
  omega
theorem Fresh.later {w w1 : World} {A : Option Addr} (h : Fresh w1 A) (hs : w.heap.size ≤ w1.heap.size) : Fresh w A := fun a ha => Nat.le_trans hs (h a ha)

/- LISTS OF UNIFORM CELLS. -/
theorem flat_length {α : Type} (f : α → List Value) (size : Nat) (hf : ∀ e, (f e).length = size) (es : List α) : (es.flatMap f).length = es.length * size := by
  induction es with
  | nil => simp
  | cons e es ih => rw [List.flatMap_cons, List.length_append, ih, hf, List.length_cons, Nat.succ_mul]; omega
theorem flat_get {α : Type} (f : α → List Value) (size : Nat) (hf : ∀ e, (f e).length = size) : ∀ (es : List α) (j : Nat) (e : α), es[j]? = some e → ∀ i, i < size → (es.flatMap f)[j * size + i]? = (f e)[i]? := by
  intro es
  induction es with
  | nil => intro j e h; simp at h
  | cons x es ih =>
    intro j e h i hi
    cases j with
    | zero =>
      simp at h; subst h
      rw [List.flatMap_cons, List.getElem?_append_left (by rw [hf]; omega)]
      simp
    | succ j =>
      rw [List.flatMap_cons, List.getElem?_append_right (by rw [hf, Nat.succ_mul]; omega), hf]
      have e1 : (j + 1) * size + i - size = j * size + i := by rw [Nat.succ_mul]; omega
      rw [e1]
      exact ih j e (by simpa using h) i hi

/-- A slice's value. -/
structure SV where
  a : Option Addr
  n : Nat
  c : Nat
def SV.v (s : SV) : Value := .slice s.a s.n s.c
/-- A list of texts of bytes: their slices' values ss, what they hold ls. 'Bd': all lie below that block. -/
def Txts (w : World) (Bd : Nat) (ss : List SV) (ls : List (List UInt8)) : Prop :=
  ss.length = ls.length ∧ ∀ (i : Nat) (s : SV) (l : List UInt8), ss[i]? = some s → ls[i]? = some l → RdB w s.a s.n l ∧ s.n ≤ s.c ∧ s.c ≤ 140737488351232 ∧ (0 < s.n → ∀ k, fp s.a k → k < Bd)
section
variable {w w' : World} {Bd : Nat} {ss : List SV} {ls : List (List UInt8)}
theorem Txts.mod {F : Nat → Prop} (h : Txts w Bd ss ls) (hm : Mod F w w') (hF : ∀ k, F k → Bd ≤ k) : Txts w' Bd ss ls :=
  ⟨h.1, fun i s l hs hl => by
    obtain ⟨h1, h2, h3, h4⟩ := h.2 i s l hs hl
    exact ⟨h1.mod' hm fun h0 k hk hf => by have := hF k hf; have := h4 h0 k hk; omega, h2, h3, h4⟩⟩
theorem Txts.mod0 (h : Txts w Bd ss ls) (hm : Mod none_ w w') : Txts w' Bd ss ls := h.mod (F := none_) hm fun _ hf => False.elim hf
theorem Txts.more {B' : Nat} (h : Txts w Bd ss ls) (hB : Bd ≤ B') : Txts w B' ss ls :=
  ⟨h.1, fun i s l hs hl => by
    obtain ⟨h1, h2, h3, h4⟩ := h.2 i s l hs hl
    exact ⟨h1, h2, h3, fun h0 k hk => Nat.lt_of_lt_of_le (h4 h0 k hk) hB⟩⟩
theorem Txts.nil : Txts w Bd [] [] := ⟨rfl, fun i s l hs _ => by simp at hs⟩
theorem Txts.snoc (h : Txts w Bd ss ls) {s : SV} {l : List UInt8} (h1 : RdB w s.a s.n l) (h2 : s.n ≤ s.c) (h3 : s.c ≤ 140737488351232) (h4 : 0 < s.n → ∀ k, fp s.a k → k < Bd) : Txts w Bd (ss ++ [s]) (ls ++ [l]) := by
  refine ⟨by simp [h.1], fun i s' l' hs hl => ?_⟩
  by_cases hi : i < ss.length
  · rw [List.getElem?_append_left hi] at hs
    rw [List.getElem?_append_left (by rw [← h.1]; exact hi)] at hl
    exact h.2 i s' l' hs hl
  · rw [List.getElem?_append_right (by omega)] at hs
    rw [List.getElem?_append_right (by rw [← h.1]; omega), ← h.1] at hl
    have e : i - ss.length = 0 := by
      rcases Nat.lt_or_ge (i - ss.length) 1 with h5 | h5
      · omega
      · rw [List.getElem?_eq_none (by simpa using h5)] at hs; cases hs
    rw [e] at hs hl
    simp at hs hl
    subst hs hl
    exact ⟨h1, h2, h3, h4⟩
theorem Txts.take_ (h : Txts w Bd ss ls) (k : Nat) : Txts w Bd (ss.take k) (ls.take k) := by
  refine ⟨by rw [List.length_take, List.length_take, h.1], fun i s l hs hl => ?_⟩
  rw [List.getElem?_take] at hs hl
  by_cases hi : i < k
  · rw [if_pos hi] at hs hl
    exact h.2 i s l hs hl
  · rw [if_neg hi] at hs
    cases hs
end
end Go.Proofs.YtimlfdihodoolaaGreat
/-
  append of bytes as one step of the walk, with the types of this program filled in; slices of bytes that the walk builds. No condition.
-/
namespace Go.Proofs.YtimlfdihodoolaaGreat
set_option linter.unusedVariables false
set_option linter.unusedSimpArgs false
open Go.RowKit
theorem u8info : (Tryz.prog.info? 5).map (fun i => (i.zero, i.size, i.bytes)) = some (some (.int .u8 0), 1, 1) := by kernel_rfl
theorem app8 {w : World} {ops : Array Oper} {rest : List Oper} {o : Oper} {a : Act} {Q : Exit → Act → World → Prop} (hgd : o.guard = none) (s x : Operand)
    (ho : o.op = .call { callee := .builtin .append, args := #[s, x], argTypes := #[22, 22] })
    {A : Option Addr} {n c : Nat} {xs : List UInt8} (hs : a.eval s = .slice A n c) (hown : OwB w 5 A n c xs)
    {S : Option Addr} {m d : Nat} {news : List UInt8} (hx : a.eval x = .slice S m d) (hr : RdB w S m news) (hb : n + m ≤ 140737488355328)
    (h : ∀ A' c' w', OwB w' 5 A' (n + m) c' (xs ++ news) → Mod (fp A) w w' → (A' = A ∨ A' = some ⟨w.heap.size, 0, none⟩) → wpList Tryz.prog ops Q rest (a.put o.dst (.slice A' (n + m) c')) w') : wpList Tryz.prog ops Q (o :: rest) a w := by
  obtain ⟨i0, hi, hz0, hz1, hz2⟩ := info_parts u8info
  refine wpList_append_ow hgd s x 22 ho 5 i0 _ 1 1 Tryz.underlying22 hi hz0 hz1 hz2 rfl (by omega) A n c (bvs xs) hs hown S m d (bvs news) hx hr (bvs_one _) (by omega) (by omega) ?_
  intro A' c' w' h1
  rw [← bvs_append] at h1
  exact h A' c' w' h1
theorem rdb_one (w : World) (e : TypeId) {x : Int} {b : UInt8} (h : x = (b.toNat : Int)) : RdB (w.alloc (.cells #[.int .u8 x] e)) (some ⟨w.heap.size, 0, none⟩) 1 [b] := by
  subst h
  exact rdn w e 1 1 w.heap.size #[.int .u8 (b.toNat : Int)] (0, 0) rfl rfl
theorem i64info : (Tryz.prog.info? 2).map (fun i => (i.zero, i.size, i.bytes)) = some (some (.int .i64 0), 1, 8) := by kernel_rfl
def RdI (w : World) (A : Option Addr) (n : Nat) (l : List Int) : Prop := Rd w 1 A n (ivs l)
def OwI (w : World) (A : Option Addr) (n c : Nat) (l : List Int) : Prop := Ow w 2 1 A n c (ivs l)
theorem RdI.len {w : World} {A : Option Addr} {n : Nat} {l : List Int} (h : RdI w A n l) : l.length = n := by have := h.1; rw [ivs_length] at this; omega
theorem OwI.len {w : World} {A : Option Addr} {n c : Nat} {l : List Int} (h : OwI w A n c l) : l.length = n := by have := h.1; rw [ivs_length] at this; omega
theorem rdi_one (w : World) (e : TypeId) (x : Int) : RdI (w.alloc (.cells #[.int .i64 x] e)) (some ⟨w.heap.size, 0, none⟩) 1 [x] :=
  rdn w e 1 1 w.heap.size #[.int .i64 x] (0, 0) rfl rfl
/-- A row that was new stays new. -/
theorem Fresh.app {w w1 : World} {A A' : Option Addr} (h : Fresh w A) (hs : w.heap.size ≤ w1.heap.size) (hA : A' = A ∨ A' = some ⟨w1.heap.size, 0, none⟩) : Fresh w A' := by
  rcases hA with rfl | rfl
  · exact h
  · intro a ha; cases ha; exact hs
theorem Mod.app {w w1 w2 : World} {A : Option Addr} (h : Mod none_ w w1) (hf : Fresh w A) (h2 : Mod (fp A) w1 w2) : Mod none_ w w2 :=
  h.then h2 fun i hi hk => by
    obtain ⟨a, ha, rfl⟩ := hk
    have := hf a ha
    omega
end Go.Proofs.YtimlfdihodoolaaGreat
/-
  Orders, entries, records, messages: what they are, plain; legs and Insts in memory.
-/
namespace Go.Proofs.YtimlfdihodoolaaGreat
set_option linter.unusedVariables false
set_option linter.unusedSimpArgs false
open Go.RowKit
/-- a leg -/
structure Lg where
  n : List UInt8
  x : Int
deriving DecidableEq
/-- an Inst -/
structure Is where
  r : Int
  n : Int
deriving DecidableEq
/-- an order -/
structure Od where
  c : Int
  s : Int
  k : Int
  acct : List UInt8
  peer : List UInt8
  sum : Int
  legs : List Lg
  per : Int
  hold : Int
  note : List UInt8
deriving DecidableEq
/-- an entry -/
structure En where
  o : Od
  none : Bool
  deps : List Is
deriving DecidableEq
/-- a record -/
structure Rc where
  i : Is
  bal : Int
  st : Int
  by_ : Int
  e : En
deriving DecidableEq
/-- a message -/
structure Mg where
  frm : Int
  to : Int
  kind : Int
  r : Rc
deriving DecidableEq
def od0 : Od := ⟨0, 0, 0, [], [], 0, [], 0, 0, []⟩
def en0 : En := ⟨od0, false, []⟩
theorem txt_nil : txt [] = (⟨#[]⟩ : ByteArray) := rfl
theorem txt_eq {a b : List UInt8} : txt a = txt b ↔ a = b := by
  constructor
  · intro h
    have : (txt a).data.toList = (txt b).data.toList := by rw [h]
    simpa [txt] using this
  · rintro rfl; rfl
/-- legs in memory -/
def lgs (ls : List Lg) : List Value := ls.flatMap fun l => [.string (txt l.n), .int .i64 l.x]
theorem lgs_length (ls : List Lg) : (lgs ls).length = ls.length * 2 := flat_length _ 2 (fun _ => rfl) ls
theorem lgs_append (C D : List Lg) : lgs (C ++ D) = lgs C ++ lgs D := by unfold lgs; rw [List.flatMap_append]
def RdL (w : World) (A : Option Addr) (n : Nat) (ls : List Lg) : Prop := Rd w 2 A n (lgs ls)
theorem RdL.len {w : World} {A : Option Addr} {n : Nat} {ls : List Lg} (h : RdL w A n ls) : ls.length = n := by have := h.1; rw [lgs_length] at this; omega
theorem RdL.mod0 {w w' : World} {A : Option Addr} {n : Nat} {ls : List Lg} (h : RdL w A n ls) (hm : Mod none_ w w') : RdL w' A n ls := Rd.mod0 h hm
theorem rdl_get {w : World} {A : Option Addr} {n : Nat} {ls : List Lg} (h : RdL w A n ls) {j : Nat} (hj : j < n) : ∃ b o l, A = some ⟨b, o, none⟩ ∧ l ∈ ls ∧ ls[j]? = some l ∧
    w.cell? ⟨b, o + j*2, none⟩ = some (.string (txt l.n)) ∧ w.cell? ⟨b, o + j*2 + 1, none⟩ = some (.int .i64 l.x) := by
  have hl := h.len
  obtain ⟨b, o, e, hc⟩ := Rd.form h (show 0 < n by omega) (by omega)
  have hjl : j < ls.length := by omega
  have hg := flat_get (fun l : Lg => [Value.string (txt l.n), .int .i64 l.x]) 2 (fun _ => rfl) ls j ls[j] (List.getElem?_eq_getElem hjl)
  refine ⟨b, o, ls[j], e, List.getElem_mem hjl, List.getElem?_eq_getElem hjl, ?_, ?_⟩
  · exact hc (j*2) _ (hg 0 (by omega))
  · rw [Nat.add_assoc]; exact hc (j*2+1) _ (hg 1 (by omega))
/-- Insts in memory -/
def iss (ls : List Is) : List Value := ls.flatMap fun l => [.int .i64 l.r, .int .i64 l.n]
theorem iss_length (ls : List Is) : (iss ls).length = ls.length * 2 := flat_length _ 2 (fun _ => rfl) ls
theorem iss_append (C D : List Is) : iss (C ++ D) = iss C ++ iss D := by unfold iss; rw [List.flatMap_append]
def RdP (w : World) (A : Option Addr) (n : Nat) (ls : List Is) : Prop := Rd w 2 A n (iss ls)
theorem RdP.len {w : World} {A : Option Addr} {n : Nat} {ls : List Is} (h : RdP w A n ls) : ls.length = n := by have := h.1; rw [iss_length] at this; omega
theorem RdP.mod0 {w w' : World} {A : Option Addr} {n : Nat} {ls : List Is} (h : RdP w A n ls) (hm : Mod none_ w w') : RdP w' A n ls := Rd.mod0 h hm
theorem rdp_get {w : World} {A : Option Addr} {n : Nat} {ls : List Is} (h : RdP w A n ls) {j : Nat} (hj : j < n) : ∃ b o l, A = some ⟨b, o, none⟩ ∧ l ∈ ls ∧ ls[j]? = some l ∧
    w.cell? ⟨b, o + j*2, none⟩ = some (.int .i64 l.r) ∧ w.cell? ⟨b, o + j*2 + 1, none⟩ = some (.int .i64 l.n) := by
  have hl := h.len
  obtain ⟨b, o, e, hc⟩ := Rd.form h (show 0 < n by omega) (by omega)
  have hjl : j < ls.length := by omega
  have hg := flat_get (fun l : Is => [Value.int .i64 l.r, .int .i64 l.n]) 2 (fun _ => rfl) ls j ls[j] (List.getElem?_eq_getElem hjl)
  refine ⟨b, o, ls[j], e, List.getElem_mem hjl, List.getElem?_eq_getElem hjl, ?_, ?_⟩
  · exact hc (j*2) _ (hg 0 (by omega))
  · rw [Nat.add_assoc]; exact hc (j*2+1) _ (hg 1 (by omega))
/-- the memory of an order, of an entry -/
structure OdM (w : World) (o : Od) (L : SV) : Prop where
  rd : RdL w L.a L.n o.legs
  cap : L.n ≤ L.c
structure EnM (w : World) (e : En) (L D : SV) : Prop where
  od : OdM w e.o L
  rd : RdP w D.a D.n e.deps
  cap : D.n ≤ D.c
theorem OdM.mod0 {w w' : World} {o : Od} {L : SV} (h : OdM w o L) (hm : Mod none_ w w') : OdM w' o L := ⟨h.rd.mod0 hm, h.cap⟩
theorem EnM.mod0 {w w' : World} {e : En} {L D : SV} (h : EnM w e L D) (hm : Mod none_ w w') : EnM w' e L D := ⟨h.od.mod0 hm, h.rd.mod0 hm, h.cap⟩
theorem od0_mem (w : World) : OdM w od0 ⟨none, 0, 0⟩ := ⟨Rd.none_, Nat.le_refl _⟩
theorem en0_mem (w : World) : EnM w en0 ⟨none, 0, 0⟩ ⟨none, 0, 0⟩ := ⟨od0_mem w, Rd.none_, Nat.le_refl _⟩
/-- two of a kind are compared -/
def lgV (l : Lg) : Value := .agg #[.string (txt l.n), .int .i64 l.x]
def isV (l : Is) : Value := .agg #[.int .i64 l.r, .int .i64 l.n]
set_option maxRecDepth 100000 in
theorem eqIn_lg (W : World) (x y : Lg) : (Op.equalIn 10000 96 (lgV x) (lgV y)).run Tryz.prog W = .ok (decide (x = y)) W := by
  unfold lgV
  rw [run_equalIn_agg W 9999 96 _ _ (by kernel_rfl) (by kernel_rfl)]
  obtain ⟨fs, hfs⟩ : ∃ fs, (Tryz.prog.fieldsOf 96).toList = fs := ⟨_, rfl⟩
  rw [hfs]
  have e : fs = (Tryz.prog.fieldsOf 96).toList := hfs.symm
  simp [go_sem] at e
  clear hfs
  subst e
  obtain ⟨xn, xh⟩ := x
  obtain ⟨yn, yh⟩ := y
  by_cases h1 : xn = yn
  · subst h1
    by_cases h2 : xh = yh
    · subst h2
      simp [go_sem]
    · simp [go_sem, h2]
  · simp [go_sem, h1, txt_eq]
theorem neq_lg (W : World) (x y : Lg) : (binOp .neq 96 (lgV x) (lgV y)).run Tryz.prog W = .ok (.bool (!decide (x = y))) W := by
  have := eqIn_lg W x y
  unfold lgV at *
  rw [run_neq_struct, this] <;> rfl
set_option maxRecDepth 100000 in
theorem eqIn_is (W : World) (x y : Is) : (Op.equalIn 10000 25 (isV x) (isV y)).run Tryz.prog W = .ok (decide (x = y)) W := by
  unfold isV
  rw [run_equalIn_agg W 9999 25 _ _ (by kernel_rfl) (by kernel_rfl)]
  obtain ⟨fs, hfs⟩ : ∃ fs, (Tryz.prog.fieldsOf 25).toList = fs := ⟨_, rfl⟩
  rw [hfs]
  have e : fs = (Tryz.prog.fieldsOf 25).toList := hfs.symm
  simp [go_sem] at e
  clear hfs
  subst e
  obtain ⟨xn, xh⟩ := x
  obtain ⟨yn, yh⟩ := y
  by_cases h1 : xn = yn
  · subst h1
    by_cases h2 : xh = yh
    · subst h2
      simp [go_sem]
    · simp [go_sem, h2]
  · simp [go_sem, h1]
theorem neq_is (W : World) (x y : Is) : (binOp .neq 25 (isV x) (isV y)).run Tryz.prog W = .ok (.bool (!decide (x = y))) W := by
  have := eqIn_is W x y
  unfold isV at *
  rw [run_neq_struct, this] <;> rfl
theorem eql_is (W : World) (x y : Is) : (binOp .eql 25 (isV x) (isV y)).run Tryz.prog W = .ok (.bool (decide (x = y))) W := by
  have := eqIn_is W x y
  unfold isV at *
  rw [run_eql_struct, this] <;> rfl
set_option maxRecDepth 100000 in
theorem eqIn_id (W : World) (x y : Is) : (Op.equalIn 10000 27 (isV x) (isV y)).run Tryz.prog W = .ok (decide (x = y)) W := by
  unfold isV
  rw [run_equalIn_agg W 9999 27 _ _ (by kernel_rfl) (by kernel_rfl)]
  obtain ⟨fs, hfs⟩ : ∃ fs, (Tryz.prog.fieldsOf 27).toList = fs := ⟨_, rfl⟩
  rw [hfs]
  have e : fs = (Tryz.prog.fieldsOf 27).toList := hfs.symm
  simp [go_sem] at e
  clear hfs
  subst e
  obtain ⟨xn, xh⟩ := x
  obtain ⟨yn, yh⟩ := y
  by_cases h1 : xn = yn
  · subst h1
    by_cases h2 : xh = yh
    · subst h2
      simp [go_sem]
    · simp [go_sem, h2]
  · simp [go_sem, h1]
theorem eql_id (W : World) (x y : Is) : (binOp .eql 27 (isV x) (isV y)).run Tryz.prog W = .ok (.bool (decide (x = y))) W := by
  have := eqIn_id W x y
  unfold isV at *
  rw [run_eql_struct, this] <;> rfl
end Go.Proofs.YtimlfdihodoolaaGreat
/-
  Maps keyed by texts, whatever their elements: a block that is a map reads as the list of its entries, in the order of their names. By the kit's laws on a map's block, read through a token that is the element itself.
-/
namespace Go.Proofs.YtimlfdihodoolaaGreat
set_option linter.unusedVariables false
set_option linter.unusedSimpArgs false
open Go.RowKit
open Go.Maps (Keyed string_keyed)
abbrev NameV := List UInt8 × Value
def VR (v : Value) : Option (DataW Value × List MemPlace) := some (.held v, [])
def ent (p : NameV) : Lit × DataW Value := (.string p.1, .held p.2)
def mapD (L : List NameV) : DataW Value := .map (L.map ent)
def findL (L : List NameV) (s : List UInt8) : Option Value := (L.find? (fun p => p.1 == s)).map (·.2)
def insL (x : NameV) : List NameV → List NameV
  | [] => [x]
  | y :: l => if bytesBefore x.1 y.1 then x :: y :: l else y :: insL x l
def putL (s : List UInt8) (v : Value) (L : List NameV) : List NameV := insL (s, v) (L.filter fun p => !(p.1 == s))
def MapAt (w : World) (k : TypeId) (b : Nat) (L : List NameV) : Prop := ∃ n, n < maxLen ∧ w.ownsMap Tryz.prog k VR b n (mapD L)
theorem has_mapD (L : List NameV) (s : List UInt8) : Maps.has (mapD L) (.string s) = (findL L s).isSome := by
  unfold mapD Maps.has findL
  induction L with
  | nil => rfl
  | cons p L ih =>
    simp only [List.map_cons, List.any_cons, List.find?_cons]
    show (p.1 == s || _) = _
    by_cases h : (p.1 == s) = true
    · simp [h]
    · simp only [Bool.not_eq_true] at h
      rw [h]; simpa using ih
theorem atKey_mapD (L : List NameV) (s : List UInt8) (z : Value) : (mapD L).atKey (.string s) (.held z) = .held ((findL L s).getD z) := by
  unfold mapD DataW.atKey findL
  induction L with
  | nil => rfl
  | cons p L ih =>
    simp only [List.map_cons, List.find?_cons]
    have : (ent p).1.sameKey (.string s) = (p.1 == s) := rfl
    rw [this]
    by_cases h : (p.1 == s) = true
    · simp [h, ent]
    · simp only [Bool.not_eq_true] at h
      rw [h]; simpa using ih
theorem size_mapD (L : List NameV) : Maps.size (mapD L) = L.length := by simp [mapD, Maps.size]
theorem put_mapD (L : List NameV) (s : List UInt8) (v : Value) : (mapD L).put (.string s) (.held v) = mapD (putL s v L) := by
  have hf : (L.map ent).filter (fun p => !p.1.sameKey (.string s)) = (L.filter fun p => !(p.1 == s)).map ent := by
    rw [List.filter_map] <;> rfl
  have hi : ∀ l : List NameV, DataW.insert (Lit.string s, DataW.held v) (l.map ent) = (insL (s, v) l).map ent := by
    intro l
    induction l with
    | nil => rfl
    | cons y l ih =>
      simp only [List.map_cons, DataW.insert, insL]
      have : (Lit.string s).before (ent y).1 = bytesBefore s y.1 := rfl
      rw [this, ih]
      split <;> rfl
  show DataW.map _ = DataW.map _
  rw [hf, hi] <;> rfl
section
variable {F : Nat → Prop} {w w' : World} {k : TypeId} {b : Nat} {L : List NameV}
theorem MapAt.lt (h : MapAt w k b L) : b < w.heap.size := by obtain ⟨n, _, h⟩ := h; exact h.lt
theorem MapAt.mod (h : MapAt w k b L) (hm : Mod F w w') (hb : ¬ F b) : MapAt w' k b L := by
  have hlt := h.lt
  obtain ⟨n, hn, es, clock, h1, h2, h3, h4⟩ := h
  exact ⟨n, hn, es, clock, (hm.block b hlt hb).trans h1, h2, h3, h4⟩
theorem MapAt.alloc (h : MapAt w k b L) (o : Obj) : MapAt (w.alloc o) k b L := by obtain ⟨n, hn, h⟩ := h; exact ⟨n, hn, h.alloc o⟩
theorem MapAt.made (w : World) (k : TypeId) : MapAt (w.alloc (.map #[] 0)) k w.heap.size [] := ⟨0, by decide, World.ownsMap_made _ _ _ _⟩
theorem MapAt.tight (h : MapAt w k b L) : w.ownsMap Tryz.prog k VR b L.length (mapD L) := by
  obtain ⟨n, hn, es, clock, h1, h2, h3, h4⟩ := h
  refine ⟨es, clock, h1, h2, ?_, h4⟩
  have := congrArg Maps.size h4
  rw [size_mapD] at this
  rw [this]; simp [Maps.size, length_sorted]
end
section
variable (w : World) {ops : Array Oper} {rest : List Oper} {o : Oper} {a : Act} {Q : Exit → Act → World → Prop}
theorem map_look_ok (hg : o.guard = none) (m x : Operand) (t : TypeId) (hop : o.op = Op.lookup t m x true) (k e : TypeId) (ht : Tryz.prog.underlying t = some (.map k e)) (hk : Tryz.prog.underlying k = some .string)
    {z : Value} (hz : (zeroValue e).run Tryz.prog w = .ok z w) (b : Nat) (L : List NameV) (hm : a.eval m = .map (some b)) (h : MapAt w k b L) (s : ByteArray) (hs : s.size ≤ maxLen) (hx : a.eval x = .string s)
    (hK : wpList Tryz.prog ops Q rest (a.put o.dst (.tuple #[(findL L s.data.toList).getD z, .bool (findL L s.data.toList).isSome])) w) :
    wpList Tryz.prog ops Q (o :: rest) a w := by
  refine wpList_lookup_own_ok w hg m x t hop k e (string_keyed hk) ht VR hz (.held z) [] rfl b _ (mapD L) hm h.tight _ (.string s.data.toList) hx (Go.WideMaps.keyOf_string_mk hk hs) ?_
  intro v ps hv
  rw [atKey_mapD] at hv
  have : v = (findL L s.data.toList).getD z := by simp [VR] at hv; exact hv.1
  rw [this, has_mapD]
  exact hK
theorem map_look (hg : o.guard = none) (m x : Operand) (t : TypeId) (hop : o.op = Op.lookup t m x false) (k e : TypeId) (ht : Tryz.prog.underlying t = some (.map k e)) (hk : Tryz.prog.underlying k = some .string)
    {z : Value} (hz : (zeroValue e).run Tryz.prog w = .ok z w) (b : Nat) (L : List NameV) (hm : a.eval m = .map (some b)) (h : MapAt w k b L) (s : ByteArray) (hs : s.size ≤ maxLen) (hx : a.eval x = .string s)
    (hK : wpList Tryz.prog ops Q rest (a.put o.dst ((findL L s.data.toList).getD z)) w) :
    wpList Tryz.prog ops Q (o :: rest) a w := by
  refine wpList_plain hg fun K' hK' => ?_
  obtain ⟨v, ps, hrun, hv⟩ := h.tight.lookup (string_keyed hk) ht hz (zd := .held z) (zp := []) rfl (Go.WideMaps.keyOf_string_mk hk hs)
  rw [atKey_mapD] at hv
  have : v = (findL L s.data.toList).getD z := by simp [VR] at hv; exact hv.1
  rw [this] at hrun
  unfold Oper.wp
  simp [execOp, hop, hm, hx, hrun, Result.andThen]
  exact hK' _ _ hK
theorem map_store (hg : o.guard = none) (m x v : Operand) (t : TypeId) (hop : o.op = Op.mapUpdate t m x v) (k e : TypeId) (ht : Tryz.prog.underlying t = some (.map k e)) (hk : Tryz.prog.underlying k = some .string)
    (b : Nat) (L : List NameV) (hm : a.eval m = .map (some b)) (h : MapAt w k b L) (hroom : L.length + 1 < maxLen) (s : ByteArray) (hs : s.size ≤ maxLen) (hx : a.eval x = .string s) (val : Value) (hv : a.eval v = val)
    (hK : ∀ w', MapAt w' k b (putL s.data.toList val L) → Mod (· = b) w w' → w'.heap.size = w.heap.size → wpList Tryz.prog ops Q rest (a.put o.dst undef) w') :
    wpList Tryz.prog ops Q (o :: rest) a w := by
  refine wpList_mapUpdate_in w hg m x v t hop k e (string_keyed hk) ht VR b _ (mapD L) hm h.tight (by omega) _ val (.string s.data.toList) hx hv (Go.WideMaps.keyOf_string_mk hk hs) (.held val) [] rfl ?_
  intro w' h1 h2
  rw [put_mapD] at h1
  refine hK w' ⟨_, hroom, h1⟩ ((Mod.of_grown h2.grown).mono fun i hi => by cases hi; rfl) ?_
  obtain ⟨es, c, es', c', _, rfl⟩ := h2
  simp [ChangeMaps.setBlock]
theorem map_len (hg : o.guard = none) (m : Operand) (t : TypeId) (hop : o.op = Op.call { callee := Callee.builtin Builtin.len, args := #[m], argTypes := #[t] }) (k e : TypeId) (ht : Tryz.prog.underlying t = some (.map k e))
    (b : Nat) (L : List NameV) (hm : a.eval m = .map (some b)) (h : MapAt w k b L) (hK : wpList Tryz.prog ops Q rest (a.put o.dst (.int .i64 L.length)) w) : wpList Tryz.prog ops Q (o :: rest) a w := by
  refine wpList_len_own w hg m t hop k e ht VR b _ (mapD L) hm h.tight ?_
  rw [size_mapD]; exact hK
end
/-- The entries stand in the order of their names. -/
def Sorted (L : List NameV) : Prop := L.Pairwise fun p q => bytesBefore p.1 q.1 = true
theorem MapAt.sorted {w : World} {k : TypeId} {b : Nat} {L : List NameV} (h : MapAt w k b L) (hk : Tryz.prog.underlying k = some .string) : Sorted L := by
  obtain ⟨n, _, es, clock, _, F, _, hD⟩ := h
  have hr := WideShapes.rising_pairwise _ (Maps.fit_rising (string_keyed hk) F)
  have : L.map ent = (es.toList.map (WideElems.rg Tryz.prog k VR)).foldr DataW.insert [] := by
    unfold mapD at hD; injection hD
  rw [← this, List.pairwise_map] at hr
  exact hr
end Go.Proofs.YtimlfdihodoolaaGreat
/-
  Maps by Inst: what they hold, as lists of pairs in whatever order. No condition.
-/
namespace Go.Proofs.YtimlfdihodoolaaGreat
set_option linter.unusedVariables false
set_option linter.unusedSimpArgs false
open Go.RowKit
open Go.Maps (Keyed)
def isVal (i : Is) : Value := .agg #[.int .i64 i.r, .int .i64 i.n]
def inI (i : Is) : Prop := (Lit.int .i64 i.r).wf = true ∧ (Lit.int .i64 i.n).wf = true
def klI (i : Is) : Lit := .string (keyBytes [.int .i64 i.r, .int .i64 i.n])
theorem instKeyed : Keyed Tryz.prog 25 := Keyed.of_law (deep_law_laid (by kernel_rfl) (m := 2) (by omega) (by decide +kernel) (by kernel_rfl) (by kernel_rfl))
theorem types_pos : ∃ N, Tryz.prog.types.size = N + 1 := ⟨Tryz.prog.types.size - 1, (Nat.sub_add_cancel (by decide +kernel)).symm⟩
theorem inst_cells : Tryz.prog.cellsOf 25 = 2 := by kernel_rfl
theorem int_cells : Tryz.prog.cellsOf 3 = 1 := by kernel_rfl
theorem inst_lits (N : Nat) (a b : Value) : Tryz.prog.keyLits (N + 1 + 1) 25 [a, b] = (match Tryz.prog.keyLits (N + 1) 3 [a], Tryz.prog.keyLits (N + 1) 3 [b] with | some x, some y => some (x ++ y) | _, _ => none) := by
  conv => lhs; unfold Program.keyLits
  simp only [Tryz.underlying25]
  simp [inst_cells, int_cells]
  cases Tryz.prog.keyLits (N + 1) 3 [a] with
  | none => rfl
  | some x =>
    cases Tryz.prog.keyLits (N + 1) 3 [b] with
    | none => rfl
    | some y => simp
theorem int_lits (N : Nat) (a : Value) : Tryz.prog.keyLits (N + 1) 3 [a] = (match a with | .int q n => if q = .i64 ∧ (Lit.int .i64 n).wf = true then some [.int .i64 n] else none | _ => none) := by
  conv => lhs; unfold Program.keyLits
  simp only [Tryz.underlying3]
  cases a <;> rfl
set_option maxRecDepth 100000 in
theorem klI_of {i : Is} (h : inI i) : keyOf Tryz.prog 25 (isVal i) = some (klI i) := by
  have hkt : Tryz.prog.keyType 25 = true := by kernel_rfl
  unfold keyOf isVal klI
  rw [Tryz.underlying25]
  simp only
  rw [if_pos (by simp [hkt, Value.formed, Tryz.underlying25, inst_cells])]
  obtain ⟨N, hN⟩ := types_pos
  rw [hN]
  show (Tryz.prog.keyLits (N + 1 + 1) 25 [.int .i64 i.r, .int .i64 i.n]).map _ = _
  rw [inst_lits, int_lits, int_lits]
  simp only [h.1, h.2, and_self, if_true]
  rfl
set_option maxRecDepth 100000 in
theorem klI_inv {v : Value} {l : Lit} (h : keyOf Tryz.prog 25 v = some l) : ∃ i, v = isVal i ∧ inI i ∧ l = klI i := by
  unfold keyOf at h
  rw [Tryz.underlying25] at h
  simp only at h
  split at h
  · rename_i hc
    simp only [Bool.and_eq_true] at hc
    obtain ⟨N, hN⟩ := types_pos
    rw [hN] at h
    have hf := hc.2
    unfold Value.formed at hf
    cases v with
    | agg cs =>
      simp only [Tryz.underlying25, inst_cells, beq_iff_eq] at hf
      obtain ⟨a, b, hab⟩ : ∃ a b, cs = #[a, b] := by
        match cs, hf with
        | ⟨[a, b]⟩, _ => exact ⟨a, b, rfl⟩
      subst hab
      change (Tryz.prog.keyLits (N + 1 + 1) 25 [a, b]).map _ = _ at h
      rw [inst_lits, int_lits, int_lits] at h
      cases a <;> first | (simp at h; done) | skip
      cases b <;> first | (simp at h; done) | skip
      rename_i q x q' y
      by_cases h1 : q = .i64 ∧ (Lit.int .i64 x).wf = true
      · by_cases h2 : q' = .i64 ∧ (Lit.int .i64 y).wf = true
        · obtain ⟨rfl, w1⟩ := h1
          obtain ⟨rfl, w2⟩ := h2
          simp only [w1, w2, and_self, if_true] at h
          exact ⟨⟨x, y⟩, rfl, ⟨w1, w2⟩, by simpa [klI] using h.symm⟩
        · simp only [h2, if_false] at h
          split at h <;> first | (simp at h; done) | (rename_i he; cases he)
      · simp only [h1, if_false] at h
        simp at h
    | _ => simp [Tryz.underlying25] at hf
  · cases h
theorem isVal_inj {i j : Is} (h : isVal i = isVal j) : i = j := by
  obtain ⟨a, b⟩ := i
  obtain ⟨c, d⟩ := j
  simp [isVal] at h
  rw [h.1, h.2]
theorem klI_inj {i j : Is} (hi : inI i) (hj : inI j) (h : klI i = klI j) : i = j := by
  have h1 := klI_of hi
  have h2 := klI_of hj
  rw [← h] at h2
  exact isVal_inj (instKeyed.inj h1 h2)
theorem klI_key (i : Is) : WideAt.IsKeyLit (klI i) := trivial
/-! ### what a map holds -/
abbrev InstV := Is × Value
def findI (L : List InstV) (i : Is) : Option Value := (L.find? (fun p => p.1 == i)).map (·.2)
def putI' (i : Is) (v : Value) (L : List InstV) : List InstV := (i, v) :: L.filter fun p => !(p.1 == i)
def dropI (i : Is) (L : List InstV) : List InstV := L.filter fun p => !(p.1 == i)
structure RepI (D : DataW Value) (L : List InstV) : Prop where
  tidy : Maps.Tidy D
  nodup : L.Pairwise fun p q => p.1 ≠ q.1
  wf : ∀ p ∈ L, inI p.1
  size : Maps.size D = L.length
  at_ : ∀ i, inI i → ∀ z, D.atKey (klI i) (.held z) = .held ((findI L i).getD z)
  has : ∀ i, inI i → Maps.has D (klI i) = (findI L i).isSome
theorem findI_nil (i : Is) : findI [] i = none := rfl
theorem findI_put_same (L : List InstV) (i : Is) (v : Value) : findI (putI' i v L) i = some v := by simp [findI, putI']
theorem findI_drop_same (L : List InstV) (i : Is) : findI (dropI i L) i = none := by
  unfold findI dropI
  rw [List.find?_filter]
  rw [Option.map_eq_none_iff, List.find?_eq_none]
  intro x _
  cases (x.1 == i) <;> simp
theorem findI_drop_other (L : List InstV) {i j : Is} (h : j ≠ i) : findI (dropI i L) j = findI L j := by
  unfold findI dropI
  rw [List.find?_filter]
  congr 2
  funext a
  by_cases hj : a.1 = j
  · have h1 : (a.1 == i) = false := by simp [hj, h]
    have h2 : (a.1 == j) = true := by simp [hj]
    rw [h1, h2] <;> rfl
  · have h2 : (a.1 == j) = false := by simp [hj]
    rw [h2]; simp
theorem findI_put_other (L : List InstV) {i j : Is} (v : Value) (h : j ≠ i) : findI (putI' i v L) j = findI L j := by
  have : findI (putI' i v L) j = findI (dropI i L) j := by
    unfold findI putI' dropI
    rw [List.find?_cons_of_neg (by simpa using fun e => h e.symm)]
  rw [this, findI_drop_other L h]
theorem findI_mem {L : List InstV} {i : Is} {v : Value} (h : findI L i = some v) : (i, v) ∈ L := by
  unfold findI at h
  cases hf : L.find? (fun p => p.1 == i) with
  | none => rw [hf] at h; cases h
  | some p =>
    rw [hf] at h
    simp only [Option.map_some, Option.some.injEq] at h
    have h1 := List.mem_of_find?_eq_some hf
    have h2 := List.find?_some hf
    simp only [beq_iff_eq] at h2
    obtain ⟨a, b⟩ := p
    simp only at h h2
    subst h h2
    exact h1
theorem findI_of_mem {L : List InstV} (hn : L.Pairwise fun p q => p.1 ≠ q.1) {i : Is} {v : Value} (h : (i, v) ∈ L) : findI L i = some v := by
  induction L with
  | nil => cases h
  | cons p L ih =>
    obtain ⟨h1, h2⟩ := List.pairwise_cons.1 hn
    unfold findI
    rcases List.mem_cons.1 h with h | h
    · subst h; simp
    · rw [List.find?_cons_of_neg (by simpa using h1 _ h)]
      exact ih h2 h
theorem findI_none {L : List InstV} {i : Is} (h : findI L i = none) : ∀ p ∈ L, p.1 ≠ i := by
  intro p hp he
  unfold findI at h
  rw [Option.map_eq_none_iff, List.find?_eq_none] at h
  exact h p hp (by simp [he])
theorem drop_none {L : List InstV} {i : Is} (h : findI L i = none) : dropI i L = L := by
  unfold dropI
  rw [List.filter_eq_self]
  intro p hp
  have := findI_none h p hp
  simp [this]
theorem drop_some {L : List InstV} (hn : L.Pairwise fun p q => p.1 ≠ q.1) {i : Is} {v : Value} (h : findI L i = some v) : (dropI i L).length + 1 = L.length := by
  induction L with
  | nil => cases h
  | cons p L ih =>
    obtain ⟨h1, h2⟩ := List.pairwise_cons.1 hn
    by_cases hp : p.1 = i
    · have e : dropI i (p :: L) = L := by
        unfold dropI
        rw [List.filter_cons_of_neg (by simp [hp]), List.filter_eq_self]
        intro q hq
        have := h1 q hq
        rw [hp] at this
        simp [Ne.symm this]
      rw [e] <;> rfl
    · have e : dropI i (p :: L) = p :: dropI i L := by
        unfold dropI
        rw [List.filter_cons_of_pos (by simp [hp])]
      have hf : findI L i = some v := by
        unfold findI at h ⊢
        rw [List.find?_cons_of_neg (by simpa using hp)] at h
        exact h
      rw [e, List.length_cons, List.length_cons, ih h2 hf]
theorem RepI.nil : RepI (.map []) [] := ⟨Maps.tidy_empty, List.Pairwise.nil, fun p hp => (List.not_mem_nil hp).elim, rfl, fun i hi z => rfl, fun i hi => rfl⟩
theorem RepI.put {D : DataW Value} {L : List InstV} (h : RepI D L) {i : Is} (hi : inI i) (v : Value) : RepI (D.put (klI i) (.held v)) (putI' i v L) := by
  have hne : ∀ {j : Is}, inI j → j ≠ i → klI j ≠ klI i := fun hj h1 h2 => h1 (klI_inj hj hi h2)
  refine ⟨h.tidy.put (klI_key i) _, ?_, fun p hp => ?_, ?_, fun j hj z => ?_, fun j hj => ?_⟩
  · refine List.pairwise_cons.2 ⟨fun q hq => ?_, h.nodup.filter _⟩
    have := (List.mem_filter.1 hq).2
    simp only [Bool.not_eq_true', beq_eq_false_iff_ne, ne_eq] at this
    exact fun e => this e.symm
  · rcases List.mem_cons.1 hp with rfl | hp
    · exact hi
    · exact h.wf p (List.mem_filter.1 hp).1
  · rw [Maps.size_put h.tidy, h.has i hi, h.size]
    show _ = (dropI i L).length + 1
    cases hf : findI L i with
    | none => rw [drop_none hf]; simp
    | some v' => have := drop_some h.nodup hf; simp; omega
  · by_cases e : j = i
    · subst e
      rw [Maps.atKey_put_same h.tidy.isMap (klI_key j), findI_put_same] <;> rfl
    · rw [Maps.atKey_put_other (hne hj e), h.at_ j hj, findI_put_other L v e]
  · by_cases e : j = i
    · subst e
      rw [Maps.has_put_same h.tidy.isMap (klI_key j), findI_put_same] <;> rfl
    · rw [Maps.has_put_other (hne hj e), h.has j hj, findI_put_other L v e]
theorem RepI.del {D : DataW Value} {L : List InstV} (h : RepI D L) {i : Is} (hi : inI i) : RepI (D.del (klI i)) (dropI i L) := by
  have hne : ∀ {j : Is}, inI j → j ≠ i → klI j ≠ klI i := fun hj h1 h2 => h1 (klI_inj hj hi h2)
  refine ⟨h.tidy.del _, h.nodup.filter _, fun p hp => h.wf p (List.mem_filter.1 hp).1, ?_, fun j hj z => ?_, fun j hj => ?_⟩
  · have h1 := Maps.size_del (k := klI i) h.tidy
    rw [h.has i hi, h.size] at h1
    cases hf : findI L i with
    | none => rw [drop_none hf]; rw [hf] at h1; simpa using h1
    | some v' => have := drop_some h.nodup hf; rw [hf] at h1; simp at h1; omega
  · by_cases e : j = i
    · subst e
      rw [Maps.atKey_del_same, findI_drop_same] <;> rfl
    · rw [Maps.atKey_del_other (hne hj e), h.at_ j hj, findI_drop_other L e]
  · by_cases e : j = i
    · subst e
      rw [Maps.has_del_same, findI_drop_same] <;> rfl
    · rw [Maps.has_del_other (hne hj e), h.has j hj, findI_drop_other L e]
/-- a map by Inst in block b -/
def MapK (w : World) (b : Nat) (L : List InstV) : Prop := ∃ n D, n < maxLen ∧ w.ownsMap Tryz.prog 25 VR b n D ∧ RepI D L
section
variable {F : Nat → Prop} {w w' : World} {b : Nat} {L : List InstV}
theorem MapK.lt (h : MapK w b L) : b < w.heap.size := by obtain ⟨n, D, _, h, _⟩ := h; exact h.lt
theorem MapK.nodup (h : MapK w b L) : L.Pairwise fun p q => p.1 ≠ q.1 := by obtain ⟨n, D, _, _, h⟩ := h; exact h.nodup
theorem MapK.wf (h : MapK w b L) : ∀ p ∈ L, inI p.1 := by obtain ⟨n, D, _, _, h⟩ := h; exact h.wf
theorem MapK.mod (h : MapK w b L) (hm : Mod F w w') (hb : ¬ F b) : MapK w' b L := by
  obtain ⟨n, D, hn, ⟨es, clock, h1, h2⟩, h3⟩ := h
  exact ⟨n, D, hn, ⟨es, clock, (hm.block b (Array.getElem?_eq_some_iff.1 h1).1 hb).trans h1, h2⟩, h3⟩
theorem MapK.alloc (h : MapK w b L) (o : Obj) : MapK (w.alloc o) b L := by obtain ⟨n, D, hn, h1, h3⟩ := h; exact ⟨n, D, hn, h1.alloc o, h3⟩
theorem MapK.made (w : World) : MapK (w.alloc (.map #[] 0)) w.heap.size [] := ⟨0, _, by decide, World.ownsMap_made _ _ _ _, RepI.nil⟩
theorem MapK.tight (h : MapK w b L) : ∃ D, w.ownsMap Tryz.prog 25 VR b L.length D ∧ RepI D L := by
  obtain ⟨n, D, hn, ⟨es, clock, h1, h2, h3, h4⟩, h5⟩ := h
  refine ⟨D, ⟨es, clock, h1, h2, ?_, h4⟩, h5⟩
  have := congrArg Maps.size h4
  rw [h5.size] at this
  rw [this]; simp [Maps.size, length_sorted]
theorem MapK.store_run (h : MapK w b L) {t e : TypeId} (ht : Tryz.prog.underlying t = some (.map 25 e)) (hroom : L.length + 1 < maxLen) {i : Is} (hi : inI i) (val : Value) :
    ∃ w', (Instr.mapUpdate t (.map (some b)) (isVal i) val).run Tryz.prog w = .ok () w' ∧ MapK w' b (putI' i val L) ∧ Mod (· = b) w w' ∧ w'.heap.size = w.heap.size := by
  obtain ⟨D, h1, h2⟩ := h.tight
  obtain ⟨w', hrun, h3, h4⟩ := h1.store instKeyed ht (by omega) (klI_of hi) (d := .held val) (ps := []) (show VR val = some (.held val, []) from rfl)
  refine ⟨w', hrun, ⟨_, _, hroom, h3, h2.put hi val⟩, (Mod.of_grown h4.grown).mono fun i hi => by cases hi; rfl, ?_⟩
  obtain ⟨es, c, es', c', _, rfl⟩ := h4
  simp [ChangeMaps.setBlock]
theorem MapK.look_run (h : MapK w b L) {t e : TypeId} (ht : Tryz.prog.underlying t = some (.map 25 e)) {z : Value} (hz : (zeroValue e).run Tryz.prog w = .ok z w) {i : Is} (hi : inI i) :
    (Instr.lookup t (.map (some b)) (isVal i) true).run Tryz.prog w = .ok (.tuple #[(findI L i).getD z, .bool (findI L i).isSome]) w := by
  obtain ⟨D, h1, h2⟩ := h.tight
  obtain ⟨v, ps, hrun, hv⟩ := h1.look_ok instKeyed ht hz (zd := .held z) (zp := []) rfl (klI_of hi)
  rw [h2.at_ i hi] at hv
  have : v = (findI L i).getD z := by simp [VR] at hv; exact hv.1
  rw [this, h2.has i hi] at hrun
  exact hrun
theorem MapK.len_run (h : MapK w b L) {t e : TypeId} (ht : Tryz.prog.underlying t = some (.map 25 e)) (ty : TypeId) : (Builtin.len_ #[t] ty #[.map (some b)]).run Tryz.prog w = .ok (.int .i64 (L.length : Nat)) w := by
  obtain ⟨D, h1, h2⟩ := h.tight
  have := h1.len ht ty
  rw [h2.size] at this
  exact this
theorem MapK.drop_run (h : MapK w b L) {t e : TypeId} (ht : Tryz.prog.underlying t = some (.map 25 e)) {i : Is} (hi : inI i) (ty : TypeId) :
    ∃ w', (Builtin.delete_ #[t, 25] ty #[.map (some b), isVal i]).run Tryz.prog w = .ok (.tuple #[]) w' ∧ MapK w' b (dropI i L) ∧ Mod (· = b) w w' ∧ w'.heap.size = w.heap.size := by
  obtain ⟨n, D, hn, h1, h2⟩ := h
  obtain ⟨w', hrun, h3, h4⟩ := h1.drop instKeyed ht (klI_of hi) ty
  refine ⟨w', hrun, ⟨n, _, hn, h3, h2.del hi⟩, (Mod.of_grown h4.grown).mono fun i hi => by cases hi; rfl, ?_⟩
  obtain ⟨es, c, es', c', _, rfl⟩ := h4
  simp [ChangeMaps.setBlock]
end
/-- an iterator over a map: R: what is still to come -/
def ItK (w : World) (b r : Nat) (L R : List InstV) : Prop := ∃ n D left cnt, w.ranges Tryz.prog 25 VR b r n D left cnt ∧ RepI D L ∧ R = L.filter fun p => left (klI p.1)
theorem ItK.mod {F : Nat → Prop} {w w' : World} {b r : Nat} {L R : List InstV} (h : ItK w b r L R) (hm : Mod F w w') (hb : ¬ F b) (hr : ¬ F r) : ItK w' b r L R := by
  obtain ⟨n, D, left, cnt, ⟨es, clock, since, seen, c0, h1, h2, h3, h4, h5, h6⟩, h7, h8⟩ := h
  have lb : b < w.heap.size := (Array.getElem?_eq_some_iff.1 h1).1
  have lr : r < w.heap.size := (Array.getElem?_eq_some_iff.1 h5).1
  exact ⟨n, D, left, cnt, ⟨es, clock, since, seen, c0, (hm.block b lb hb).trans h1, h2, h3, h4, (hm.block r lr hr).trans h5, h6⟩, h7, h8⟩
theorem ItK.next {w : World} {b r : Nat} {L R : List InstV} (h : ItK w b r L R) (ty : TypeId) :
    (R = [] ∧ (Instr.next (.pointer (some ⟨r, 0, none⟩)) false ty).run Tryz.prog w = .ok (.tuple #[.bool false]) w) ∨
    ∃ (p : InstV) (w' : World), p ∈ R ∧ p ∈ L ∧ ItK w' b r L (dropI p.1 R) ∧ ((dropI p.1 R).length < R.length ∧ w'.rangeLeft b r < w.rangeLeft b r) ∧ Mod (· = r) w w' ∧ w'.heap.size = w.heap.size ∧
      (Instr.next (.pointer (some ⟨r, 0, none⟩)) false ty).run Tryz.prog w = .ok (.tuple #[.bool true, isVal p.1, p.2]) w' ∧
      (Instr.entry (.pointer (some ⟨r, 0, none⟩))).run Tryz.prog w' = .ok (.tuple #[isVal p.1, p.2]) w' := by
  obtain ⟨n, D, left, cnt, hr, h2, h3⟩ := h
  rcases hr.next instKeyed ty with ⟨h0, hl, hrun⟩ | ⟨key, v, kl, y, w', cnt', hkey, hlk, hv, hat, hrun, hrg, hlt, hgr, hsz, hen⟩
  · refine .inl ⟨?_, hrun⟩
    rw [h3, List.filter_eq_nil_iff]
    intro p _
    rw [hl]; simp
  · right
    obtain ⟨i, rfl, hi, rfl⟩ := klI_inv hkey
    have hy : y = (.held v, []) := by unfold VR at hv; exact (Option.some.inj hv).symm
    subst hy
    have hfs : (findI L i).isSome = true := by
      rw [← h2.has i hi]
      cases hh : Maps.has D (klI i) with
      | true => rfl
      | false =>
        have := Maps.atKey_of_not_has hh (.held (.bool true))
        have h5 := Maps.atKey_of_not_has hh (.held (.bool false))
        rw [hat] at this h5
        rw [this] at h5
        cases h5
    obtain ⟨v', hf⟩ := Option.isSome_iff_exists.1 hfs
    have hvv : v' = v := by
      have h5 := h2.at_ i hi v
      rw [hat, hf] at h5
      simpa using h5.symm
    subst hvv
    have hm := findI_mem hf
    have hmR : (i, v') ∈ R := by rw [h3]; exact List.mem_filter.2 ⟨hm, hlk⟩
    have hR' : dropI i R = L.filter fun p => (left (klI p.1) && !(klI p.1).sameKey (klI i)) := by
      rw [h3]
      unfold dropI
      rw [List.filter_filter]
      refine List.filter_congr fun p hp => ?_
      by_cases e : p.1 = i
      · rw [e]
        have : (klI i).sameKey (klI i) = true := WideAt.sameKey_self (klI_key i)
        simp [this]
      · have : (klI p.1).sameKey (klI i) = false := Maps.sameKey_ne (fun h => e (klI_inj (h2.wf p hp) hi h))
        have e2 : (p.1 == i) = false := by simpa using e
        rw [this, e2]
        simp
    have hRn : R.Pairwise fun p q => p.1 ≠ q.1 := by rw [h3]; exact h2.nodup.filter _
    refine ⟨(i, v'), w', hmR, hm, ⟨n, D, _, cnt', hrg, h2, hR'⟩, ?_, (Mod.of_grown hgr).mono fun k hk => by cases hk; rfl, hsz, hrun, hen⟩
    have := drop_some hRn (findI_of_mem hRn hmR)
    refine ⟨?_, by rw [hrg.left_eq, hr.left_eq]; exact hlt⟩
    show (dropI i R).length < R.length
    omega
end Go.Proofs.YtimlfdihodoolaaGreat
