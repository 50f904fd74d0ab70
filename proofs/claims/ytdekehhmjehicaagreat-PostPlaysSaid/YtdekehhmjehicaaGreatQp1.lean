import Derived.WalkKit
import Derived.WalkSpells
import Derived.WalkLawsBesides
import Derived.Lib.Hide
import Derived.Deep.Draws
import Derived.Deep.AppendLies
import Derived.Maps.AppendAt
import Derived.BigQuiet
import Derived.Lib.SlBytesConst
import Derived.Lib.MinMax
import Derived.Test.YtdekehhmjehicaaGreatRows
import Derived.Laws.StructEq
import Derived.Deep.LoopGhost
/-
  Words for memory: 'Mod F w w'' (only the blocks in F, and new ones, may have changed), a slice that reads as a list of cells ('Rd'), a row of the call's own that may be appended to ('Ow'), and the laws of append on them. No condition.
-/
namespace Go.Proofs.YtdekehhmjehicaaGreat
set_option linter.unusedVariables false
set_option linter.unusedSimpArgs false
open Go.RowKit

/-- Only the blocks in F, and new ones, may have changed. -/
structure Mod (F : Nat → Prop) (w w' : World) : Prop where
  os : w'.os = w.os
  tape : w'.tape = w.tape
  output : w'.output = w.output
  size : w.heap.size ≤ w'.heap.size
  block : ∀ k, k < w.heap.size → ¬ F k → w'.heap[k]? = w.heap[k]?

def none_ : Nat → Prop := fun _ => False
def fp (A : Option Addr) : Nat → Prop := fun k => ∃ a, A = some a ∧ a.block = k
def Fresh (w : World) (A : Option Addr) : Prop := ∀ a, A = some a → w.heap.size ≤ a.block

section
variable {F G : Nat → Prop} {w w' w'' : World}
theorem Mod.refl (F : Nat → Prop) (w : World) : Mod F w w := ⟨rfl, rfl, rfl, Nat.le_refl _, fun _ _ _ => rfl⟩
theorem Mod.trans (h : Mod F w w') (k : Mod F w' w'') : Mod F w w'' :=
  ⟨k.os.trans h.os, k.tape.trans h.tape, k.output.trans h.output, Nat.le_trans h.size k.size, fun i hi hf => (k.block i (Nat.lt_of_lt_of_le hi h.size) hf).trans (h.block i hi hf)⟩
/-- The second step may also change what the first one has made. -/
theorem Mod.then (h : Mod F w w') (k : Mod G w' w'') (hs : ∀ i, i < w.heap.size → G i → F i) : Mod F w w'' :=
  ⟨k.os.trans h.os, k.tape.trans h.tape, k.output.trans h.output, Nat.le_trans h.size k.size,
    fun i hi hf => (k.block i (Nat.lt_of_lt_of_le hi h.size) (fun hg => hf (hs i hi hg))).trans (h.block i hi hf)⟩
theorem Mod.mono (h : Mod F w w') (hs : ∀ i, F i → G i) : Mod G w w' := ⟨h.os, h.tape, h.output, h.size, fun i hi hf => h.block i hi (fun hg => hf (hs i hg))⟩
theorem Mod.any (h : Mod none_ w w') (G : Nat → Prop) : Mod G w w' := h.mono fun _ hh => hh.elim
theorem Mod.drew (h : Mod F w w') : Mod F w w'.drew := ⟨h.os, h.tape, h.output, h.size, h.block⟩
theorem Mod.drewN (h : Mod F w w') (n : Nat) : Mod F w (w'.drewN n) := ⟨h.os, h.tape, h.output, h.size, h.block⟩
theorem Mod.alloc (h : Mod F w w') (o : Obj) : Mod F w (w'.alloc o) :=
  ⟨h.os, h.tape, h.output, Nat.le_trans h.size (by simp), fun i hi hf => (Below.heap_alloc w' o i (Nat.lt_of_lt_of_le hi h.size)).trans (h.block i hi hf)⟩
theorem Mod.setCell (h : Mod F w w') {p : Addr} (hp : F p.block ∨ w.heap.size ≤ p.block) (u : Value) : Mod F w (w'.setCell p u) :=
  ⟨h.os, h.tape, h.output, by simpa [World.setCell] using h.size, fun i hi hf => (Below.heap_setCell w' p u i (by
    rintro rfl
    rcases hp with hp | hp
    · exact hf hp
    · omega)).trans (h.block i hi hf)⟩
theorem Mod.below (h : Mod F w w') {B : Nat} (hB : B ≤ w.heap.size) (hF : ∀ k, F k → B ≤ k) : Below B w w' :=
  ⟨h.os, h.tape, h.output, h.size, fun k hk => h.block k (by omega) (fun hf => by have := hF k hf; omega)⟩
theorem Mod.below0 (h : Mod none_ w w') : Below w.heap.size w w' := h.below (Nat.le_refl _) fun _ hh => hh.elim
theorem Mod.of_below (h : Below w.heap.size w w') : Mod none_ w w' := ⟨h.os, h.tape, h.output, h.size, fun k hk _ => h.block k hk⟩
theorem Mod.cell (h : Mod F w w') {a : Addr} (hlt : a.block < w.heap.size) (hf : ¬ F a.block) : w'.cell? a = w.cell? a := World.cell?_of_block (w := w) (h.block a.block hlt hf)
theorem Mod.frozen (h : Mod F w w') {a : Addr} (hlt : a.block < w.heap.size) (hf : ¬ F a.block) : w'.frozen? a = w.frozen? a := World.frozen?_of_block (w := w) (h.block a.block hlt hf)
theorem Mod.cell_some (h : Mod F w w') {a : Addr} {v : Value} (hc : w.cell? a = some v) (hf : ¬ F a.block) : w'.cell? a = some v := (h.cell (World.block_lt_of_cell? w a hc) hf).trans hc
theorem Mod.of_grown {row : Option Nat} (h : w.grownBy w' row) : Mod (fun k => row = some k) w w' :=
  ⟨h.os, h.tape, h.output, h.size, fun k hk hn => h.block k hk (fun e => hn e.symm)⟩
end

/-- A block known whole. -/
def Blk (w : World) (g : Nat) (t : TypeId) (cs : Array Value) : Prop := w.heap[g]? = some (.cells cs t (0, 0))
section
variable {F : Nat → Prop} {w w' : World} {g : Nat} {t : TypeId} {cs : Array Value}
theorem Blk.lt (h : Blk w g t cs) : g < w.heap.size := by
  rcases Nat.lt_or_ge g w.heap.size with hlt | hge
  · exact hlt
  · unfold Blk at h; rw [Array.getElem?_eq_none hge] at h; cases h
theorem Blk.cell (h : Blk w g t cs) (i : Nat) : w.cell? ⟨g, i, none⟩ = cs[i]? := cell_of_row w g i cs t (0, 0) h
theorem Blk.cell_ {i : Nat} {v : Value} (h : Blk w g t cs) (hv : cs[i]? = some v) : w.cell? ⟨g, i, none⟩ = some v := (h.cell i).trans hv
theorem Blk.frozen (h : Blk w g t cs) (i : Nat) : w.frozen? ⟨g, i, none⟩ = false := by
  unfold Blk at h
  simp [World.frozen?, h]
theorem Blk.new (w : World) (t : TypeId) (cs : Array Value) : Blk (w.alloc (.cells cs t)) w.heap.size t cs := heap_alloc_new w _
theorem Blk.drew (h : Blk w g t cs) : Blk w.drew g t cs := h
theorem Blk.drewN (h : Blk w g t cs) (n : Nat) : Blk (w.drewN n) g t cs := h
theorem Blk.alloc (h : Blk w g t cs) (o : Obj) : Blk (w.alloc o) g t cs := (Below.heap_alloc w o g h.lt).trans h
theorem Blk.set_ (h : Blk w g t cs) (i : Nat) (u : Value) : Blk (w.setCell ⟨g, i, none⟩ u) g t (cs.setIfInBounds i u) := by
  unfold Blk at h ⊢
  simp [World.setCell, Array.getElem?_modify, h]
theorem Blk.far (h : Blk w g t cs) {p : Addr} (hp : g ≠ p.block) (u : Value) : Blk (w.setCell p u) g t cs := (Below.heap_setCell w p u g hp).trans h
theorem Blk.mod (h : Blk w g t cs) (hm : Mod F w w') (hg : ¬ F g) : Blk w' g t cs := (hm.block g h.lt hg).trans h
theorem Blk.ne_ {g' : Nat} {t' : TypeId} {cs' : Array Value} (h : Blk w g t cs) (h' : Blk w g' t' cs') (hne : t ≠ t') : g ≠ g' := by
  rintro rfl
  unfold Blk at h h'
  rw [h] at h'
  injection h' with h'
  injection h' with _ ht
  exact hne ht
end

theorem block_of_add (a : Addr) (n : Nat) : (a.add n).block = a.block := by unfold Addr.add; split <;> rfl
theorem add_of_add (a : Addr) (i j : Nat) : (a.add i).add j = a.add (i + j) := by
  unfold Addr.add
  by_cases hi : i = 0 <;> by_cases hj : j = 0 <;> simp [hi, hj, Nat.add_assoc]
theorem add_zero_ (a : Addr) : a.add 0 = a := rfl
theorem map_add_zero (A : Option Addr) : A.map (fun x => x.add 0) = A := by cases A <;> rfl
theorem add_lit (g j : Nat) : (⟨g, 0, none⟩ : Addr).add j = ⟨g, j, none⟩ := by unfold Addr.add; split <;> simp_all

/-- The slice '.slice A n _' of elements of 'size' cells holds the cells xs (read only). -/
def Rd (w : World) (size : Nat) (A : Option Addr) (n : Nat) (xs : List Value) : Prop :=
  xs.length = n * size ∧ (0 < n → ∃ ad, A = some ad ∧ ∀ j u, xs[j]? = some u → w.cell? (ad.add j) = some u)
section
variable {F : Nat → Prop} {w w' : World} {size n : Nat} {A : Option Addr} {xs : List Value}
theorem Rd.none_ : Rd w size A 0 [] := ⟨by simp, fun h => absurd h (by omega)⟩
theorem Rd.at_ {k : Nat} (h : Rd w 1 A n xs) (hk : k < n) : ∃ ad u, A = some ad ∧ xs[k]? = some u ∧ w.cell? (ad.add k) = some u := by
  obtain ⟨ad, e, hc⟩ := h.2 (by omega)
  have hl : k < xs.length := by have := h.1; omega
  exact ⟨ad, xs[k], e, List.getElem?_eq_getElem hl, hc k _ (List.getElem?_eq_getElem hl)⟩
theorem Rd.mod (h : Rd w size A n xs) (hm : Mod F w w') (hF : ∀ k, fp A k → ¬ F k) : Rd w' size A n xs :=
  ⟨h.1, fun hn => by
    obtain ⟨ad, e, hc⟩ := h.2 hn
    exact ⟨ad, e, fun j u hu => hm.cell_some (hc j u hu) (by rw [block_of_add]; exact hF _ ⟨ad, e, rfl⟩)⟩⟩
theorem Rd.mod0 (h : Rd w size A n xs) (hm : Mod Go.Proofs.YtdekehhmjehicaaGreat.none_ w w') : Rd w' size A n xs := h.mod hm fun _ _ hh => hh
theorem Rd.drewN (h : Rd w size A n xs) (k : Nat) : Rd (w.drewN k) size A n xs := h
theorem Rd.alloc (h : Rd w size A n xs) (o : Obj) : Rd (w.alloc o) size A n xs := h.mod0 ((Mod.refl _ w).alloc o)
theorem Rd.drop_ (h : Rd w size A n xs) {k cap : Nat} (hk : k ≤ n) (hc : n ≤ cap) :
    Rd w size (if cap = k then A else A.map (·.add (k * size))) (n - k) (xs.drop (k * size)) := by
  refine ⟨by rw [List.length_drop, h.1, Nat.sub_mul], fun hn => ?_⟩
  obtain ⟨ad, rfl, hcell⟩ := h.2 (by omega)
  rw [if_neg (by omega)]
  refine ⟨ad.add (k * size), rfl, fun j u hu => ?_⟩
  rw [add_of_add]
  exact hcell _ u (by rw [← hu, List.getElem?_drop])
theorem Rd.take_ (h : Rd w size A n xs) {k : Nat} (hk : k ≤ n) : Rd w size A k (xs.take (k * size)) := by
  refine ⟨by rw [List.length_take, h.1]; exact Nat.min_eq_left (Nat.mul_le_mul_right _ hk), fun hn => ?_⟩
  obtain ⟨ad, rfl, hcell⟩ := h.2 (by omega)
  refine ⟨ad, rfl, fun j u hu => hcell j u ?_⟩
  rw [List.getElem?_take] at hu
  split at hu
  · exact hu
  · cases hu
/-- Where there is an element the address is a plain one. -/
theorem Rd.form (h : Rd w size A n xs) (hn : 0 < n) (hs : 0 < size) : ∃ b o, A = some ⟨b, o, none⟩ ∧ ∀ j u, xs[j]? = some u → w.cell? ⟨b, o + j, none⟩ = some u := by
  obtain ⟨ad, rfl, hc⟩ := h.2 hn
  have hl : 0 < xs.length := by rw [h.1]; exact Nat.mul_pos hn hs
  have h0 := hc 0 _ (List.getElem?_eq_getElem hl)
  rw [add_zero_] at h0
  obtain ⟨b, o, sp⟩ := ad
  cases sp with
  | some x => simp [World.cell?] at h0; split at h0 <;> simp at h0
  | none =>
    refine ⟨b, o, rfl, fun j u hu => ?_⟩
    have := hc j u hu
    have e : (⟨b, o, none⟩ : Addr).add j = ⟨b, o + j, none⟩ := by unfold Addr.add; split <;> simp_all
    rwa [e] at this
theorem Rd.lt (h : Rd w 1 A n xs) (hn : 0 < n) : ∀ k, fp A k → k < w.heap.size := by
  rintro k ⟨a, e, rfl⟩
  obtain ⟨ad, u, e', _, hc⟩ := h.at_ hn
  rw [e] at e'
  injection e' with e'
  subst e'
  exact World.block_lt_of_cell? w _ hc
end

theorem Rd.mod' {F : Nat → Prop} {w w' : World} {size n : Nat} {A : Option Addr} {xs : List Value} (h : Rd w size A n xs) (hm : Mod F w w') (hF : 0 < n → ∀ k, fp A k → ¬ F k) : Rd w' size A n xs :=
  ⟨h.1, fun hn => by
    obtain ⟨ad, e, hc⟩ := h.2 hn
    exact ⟨ad, e, fun j u hu => hm.cell_some (hc j u hu) (by rw [block_of_add]; exact hF hn _ ⟨ad, e, rfl⟩)⟩⟩

/-- A row of the call's own: it may be appended to and stored into. -/
def Ow (w : World) (e : TypeId) (size : Nat) (A : Option Addr) (n c : Nat) (xs : List Value) : Prop :=
  xs.length = n * size ∧ n ≤ c ∧ c ≤ maxLen ∧
    ((A = none ∧ n = 0 ∧ c = 0) ∨ ∃ g cur, A = some ⟨g, 0, none⟩ ∧ Blk w g e cur ∧ c * size ≤ cur.size ∧ cur.toList.take (n * size) = xs)
section
variable {F : Nat → Prop} {w w' : World} {e : TypeId} {size n c : Nat} {A : Option Addr} {xs : List Value}
theorem Ow.nil (w : World) (e : TypeId) (size : Nat) : Ow w e size none 0 0 [] := ⟨by simp, Nat.le_refl _, Nat.zero_le _, .inl ⟨rfl, rfl, rfl⟩⟩
theorem Ow.mod (h : Ow w e size A n c xs) (hm : Mod F w w') (hF : ∀ k, fp A k → ¬ F k) : Ow w' e size A n c xs := by
  obtain ⟨h1, h2, h3, h4⟩ := h
  refine ⟨h1, h2, h3, ?_⟩
  rcases h4 with h4 | ⟨g, cur, rfl, hb, h5⟩
  · exact .inl h4
  · exact .inr ⟨g, cur, rfl, hb.mod hm (hF g ⟨_, rfl, rfl⟩), h5⟩
theorem Ow.mod0 (h : Ow w e size A n c xs) (hm : Mod none_ w w') : Ow w' e size A n c xs := h.mod hm fun _ _ hh => hh
theorem Ow.rd (h : Ow w e size A n c xs) : Rd w size A n xs := by
  obtain ⟨h1, h2, _, h4⟩ := h
  refine ⟨h1, fun hn => ?_⟩
  rcases h4 with ⟨_, h5, _⟩ | ⟨g, cur, rfl, hb, h5, h6⟩
  · omega
  · refine ⟨_, rfl, fun j u hu => ?_⟩
    rw [add_lit, hb.cell]
    rw [← h6, List.getElem?_take] at hu
    split at hu
    · simpa using hu
    · cases hu
theorem Ow.lt (h : Ow w e size A n c xs) : ∀ k, fp A k → k < w.heap.size := by
  rintro k ⟨a, ha, rfl⟩
  rcases h.2.2.2 with ⟨h4, _⟩ | ⟨g, cur, h4, hb, _⟩
  · rw [h4] at ha; cases ha
  · rw [h4] at ha; cases ha; exact hb.lt
theorem Ow.ne_blk (h : Ow w e size A n c xs) {g : Nat} {t : TypeId} {cs : Array Value} (hb : Blk w g t cs) (hne : e ≠ t) : ¬ fp A g := by
  rintro ⟨a, ha, rfl⟩
  rcases h.2.2.2 with ⟨h4, _⟩ | ⟨g, cur, h4, hb', _⟩
  · rw [h4] at ha; cases ha
  · rw [h4] at ha; cases ha; exact hb'.ne_ hb hne rfl
theorem Ow.take_ (h : Ow w e size A n c xs) {k : Nat} (hk : k ≤ n) : Ow w e size A k c (xs.take (k * size)) := by
  obtain ⟨h1, h2, h3, h4⟩ := h
  refine ⟨by rw [List.length_take, h1]; exact Nat.min_eq_left (Nat.mul_le_mul_right _ hk), by omega, h3, ?_⟩
  rcases h4 with ⟨rfl, rfl, rfl⟩ | ⟨g, cur, rfl, hb, h5, h6⟩
  · exact .inl ⟨rfl, by omega, rfl⟩
  · refine .inr ⟨g, cur, rfl, hb, h5, ?_⟩
    rw [← h6, List.take_take, Nat.min_eq_left (Nat.mul_le_mul_right _ hk)]
theorem Ow.clip (h : Ow w e size A n c xs) {c' : Nat} (h1 : n ≤ c') (h2 : c' ≤ c) : Ow w e size A n c' xs := by
  obtain ⟨a1, a2, a3, a4⟩ := h
  refine ⟨a1, h1, Nat.le_trans h2 a3, ?_⟩
  rcases a4 with ⟨rfl, rfl, rfl⟩ | ⟨g, cur, rfl, hb, h5, h6⟩
  · exact .inl ⟨rfl, rfl, by omega⟩
  · exact .inr ⟨g, cur, rfl, hb, Nat.le_trans (Nat.mul_le_mul_right _ h2) h5, h6⟩
theorem Ow.new (w : World) (e : TypeId) (size n : Nat) (cs : Array Value) (hn : n ≤ maxLen) (hs : cs.size = n * size) : Ow (w.alloc (.cells cs e)) e size (some ⟨w.heap.size, 0, none⟩) n n cs.toList :=
  ⟨by simpa using hs, Nat.le_refl _, hn, .inr ⟨_, cs, rfl, Blk.new w e cs, by omega, by rw [← hs, ← Array.length_toList, List.take_length]⟩⟩
/-- Where there is an element the row is a block. -/
theorem Ow.form (h : Ow w e size A n c xs) (hn : 0 < n) : ∃ g cur, A = some ⟨g, 0, none⟩ ∧ Blk w g e cur ∧ c * size ≤ cur.size ∧ cur.toList.take (n * size) = xs := by
  rcases h.2.2.2 with ⟨_, h0, _⟩ | ⟨g, cur, h4, hb, h5⟩
  · omega
  · exact ⟨g, cur, h4, hb, h5⟩
theorem Ow.cell_ (h : Ow w e size A n c xs) {g : Nat} (hA : A = some ⟨g, 0, none⟩) (j : Nat) (hj : j < n * size) : w.cell? ⟨g, j, none⟩ = xs[j]? := by
  rcases h.2.2.2 with ⟨h4, _⟩ | ⟨g', cur, h4, hb, h5, h6⟩
  · rw [hA] at h4; cases h4
  · rw [hA] at h4; cases h4
    rw [hb.cell, ← h6, List.getElem?_take, if_pos hj]; simp
theorem Ow.free (h : Ow w e size A n c xs) {g : Nat} (hA : A = some ⟨g, 0, none⟩) (j : Nat) : w.frozen? ⟨g, j, none⟩ = false := by
  rcases h.2.2.2 with ⟨h4, _⟩ | ⟨g', cur, h4, hb, h5, h6⟩
  · rw [hA] at h4; cases h4
  · rw [hA] at h4; cases h4; exact hb.frozen j
/-- A store of one cell. -/
theorem Ow.set_ (h : Ow w e size A n c xs) {g : Nat} (hA : A = some ⟨g, 0, none⟩) (j : Nat) (u : Value) : Ow (w.setCell ⟨g, j, none⟩ u) e size A n c (xs.set j u) := by
  obtain ⟨h1, h2, h3, h4⟩ := h
  refine ⟨by simpa using h1, h2, h3, ?_⟩
  rcases h4 with ⟨h4, _⟩ | ⟨g', cur, h4, hb, h5, h6⟩
  · rw [hA] at h4; cases h4
  · rw [hA] at h4; cases h4
    refine .inr ⟨g, _, hA, hb.set_ j u, by simpa using h5, ?_⟩
    rw [← h6]
    apply List.ext_getElem?
    intro i
    simp only [List.getElem?_take, List.getElem?_set, Array.toList_setIfInBounds, List.length_take]
    by_cases hi : i < n * size
    · simp only [hi, if_true]
      by_cases hj : j = i
      · subst hj
        have hl : j < cur.size := by
          have := Nat.mul_le_mul_right size h2
          omega
        simp [hl]; omega
      · simp [hj]
    · simp only [hi, if_false]
      by_cases hj : j = i
      · subst hj; simp; omega
      · simp [hj]
end

section
variable {P : Program}
/-- append onto a row of the call's own, whatever the source (nil too). -/
theorem run_append_ow (w : World) (t ty e : TypeId) (i : TypeInfo) (z : Value) (size bytes : Nat) (ht : P.underlying t = some (.slice e)) (hi : P.info? e = some i) (hz : i.zero = some z)
    (hsize : i.size = size) (hby : i.bytes = bytes) (hzs : z.cells.size = size) (hsz : 0 < size)
    (A : Option Addr) (n c : Nat) (xs : List Value) (hown : Ow w e size A n c xs)
    (S : Option Addr) (m d : Nat) (news : List Value) (hr : Rd w size S m news) (h1 : ∀ u ∈ news, u.oneCell' = true)
    (hbytes : (n + m) * bytes ≤ 140737488355328) (h63 : n + m ≤ 9223372036854775807) :
    ∃ A' c' w', (Builtin.append_ #[t, t] ty #[.slice A n c, .slice S m d]).run P w = .ok (.slice A' (n + m) c') w' ∧ Ow w' e size A' (n + m) c' (xs ++ news) ∧ Mod (fp A) w w' ∧
      (A' = A ∨ A' = some ⟨w.heap.size, 0, none⟩) := by
  subst hsize
  subst hby
  have hlen : (xs ++ news).length = (n + m) * i.size := by rw [List.length_append, hown.1, hr.1, Nat.add_mul]
  have hmax : n + m ≤ maxLen := by simp only [maxLen]; omega
  obtain ⟨hx1, hnc, hcm, hcase⟩ := hown
  -- what a new row holds
  have grown : ∀ (old : Nat), old < n + m →
      Ow (w.drew.alloc (.cells (xs.toArray ++ news.toArray ++ Builtin.zeroCells z.cells (grownCap w (n + m) old e - (n + m))) e)) e i.size
        (some ⟨w.heap.size, 0, none⟩) (n + m) (grownCap w (n + m) old e) (xs ++ news) ∧
      Mod (fp A) w (w.drew.alloc (.cells (xs.toArray ++ news.toArray ++ Builtin.zeroCells z.cells (grownCap w (n + m) old e - (n + m))) e)) := by
    intro old ho
    have hge := grownCap_ge w (n + m) old e
    have hcm : grownCap w (n + m) old e ≤ maxLen := grownCap_le_maxLen w (n + m) old e hmax
    refine ⟨⟨hlen, hge, hcm, .inr ⟨w.heap.size, _, rfl, heap_alloc_new w.drew _, ?_, ?_⟩⟩, (Mod.refl _ w).drew.alloc _⟩
    · simp only [Array.size_append, List.size_toArray, size_zeroCells, hzs, hx1, hr.1, ← Nat.add_mul]
      exact Nat.mul_le_mul_right _ (by omega)
    · simp only [Array.toList_append, List.append_assoc]
      rw [← List.append_assoc, ← hlen]
      exact List.take_left
  by_cases hm : m = 0
  · subst hm
    have hn : news = [] := List.eq_nil_of_length_eq_zero (by simpa using hr.1)
    subst hn
    have hrun : (Builtin.append_ #[t, t] ty #[.slice A n c, .slice S 0 d]).run P w = .ok (.slice A n c) w := by
      have hf : ∀ S : Option Addr, (Builtin.firstCells i.size 0 (.slice S 0 d)).run P w = .ok #[] w := by
        intro S; cases S <;> simp [Builtin.firstCells, loadCells, loadCellsFrom]
      rcases hcase with ⟨rfl, rfl, rfl⟩ | ⟨g, cur, rfl, hb, h5, h6⟩
      · simp [Builtin.append_, run_underlying ht, sizeOf, typeInfo, hi, Builtin.lenOf, hf]
      · simp [Builtin.append_, run_underlying ht, sizeOf, typeInfo, hi, Builtin.lenOf, hf, hnc, storeCells]
    refine ⟨A, c, w, by simpa using hrun, ?_, Mod.refl _ w, .inl rfl⟩
    simp only [Nat.add_zero, List.append_nil]
    exact ⟨hx1, hnc, hcm, hcase⟩
  · obtain ⟨ad, rfl, hnews⟩ := hr.2 (by omega)
    rcases hcase with ⟨rfl, rfl, rfl⟩ | ⟨g, cur, rfl, hb, h5, h6⟩
    · have hx : xs = [] := List.eq_nil_of_length_eq_zero (by simpa using hx1)
      subst hx
      have hrun := run_append_nil (P := P) w t ty e i z ht hi hz ad m d news hr.1 hnews (by omega) (by omega) (by have hb := hbytes; simp only [Nat.zero_add] at hb; omega)
      have hgr := grown 0 (by omega)
      simp only [Nat.zero_add, List.nil_append, Array.empty_append] at hgr ⊢
      exact ⟨_, _, _, hrun, hgr.1, hgr.2, .inr rfl⟩
    · by_cases hroom : n + m ≤ c
      · have hfit : n * i.size + news.length ≤ cur.size := by
          rw [hr.1, ← Nat.add_mul]
          exact Nat.le_trans (Nat.mul_le_mul_right _ hroom) h5
        have hrun := run_append_room (P := P) w t ty e i ht hi g n c cur hb ad m d news hr.1 hnews h1 hroom hfit
        refine ⟨_, _, _, hrun, ⟨hlen, hroom, hcm, .inr ⟨g, _, rfl, setRow_heap w g cur _ e _ hb, ?_, ?_⟩⟩, ⟨rfl, rfl, rfl, by simp, fun k hk hf => setRow_other w g k _ (fun e => hf ⟨_, rfl, e.symm⟩)⟩, .inl rfl⟩
        · simp only [List.size_toArray, List.length_append, List.length_take, List.length_drop, Array.length_toList]
          omega
        · rw [h6, ← hlen]
          exact List.take_left
      · have holds : ∀ j u, xs[j]? = some u → w.cell? ((⟨g, 0, none⟩ : Addr).add j) = some u := by
          intro j u hu
          rw [add_lit, Blk.cell hb]
          rw [← h6, List.getElem?_take] at hu
          split at hu
          · simpa using hu
          · cases hu
        have hrun := run_append_grow (P := P) w t ty e i z ht hi hz ⟨g, 0, none⟩ n c xs hx1 holds ad m d news hr.1 hnews (by omega) (by omega) (growslice_fits (by omega) hbytes)
        have hgr := grown c (by omega)
        exact ⟨_, _, _, hrun, hgr.1, hgr.2, .inr rfl⟩

theorem wp_append_ow (w : World) {o : Oper} {a : Act} {K : Act → World → Prop} {Q : Exit → Act → World → Prop} (s x : Operand) (t : TypeId)
    (ho : o.op = .call { callee := .builtin .append, args := #[s, x], argTypes := #[t, t] })
    (e : TypeId) (i : TypeInfo) (z : Value) (size bytes : Nat) (ht : P.underlying t = some (.slice e)) (hi : P.info? e = some i) (hz : i.zero = some z)
    (hsize : i.size = size) (hby : i.bytes = bytes) (hzs : z.cells.size = size) (hsz : 0 < size)
    (A : Option Addr) (n c : Nat) (xs : List Value) (hs : a.eval s = .slice A n c) (hown : Ow w e size A n c xs)
    (S : Option Addr) (m d : Nat) (news : List Value) (hx : a.eval x = .slice S m d) (hr : Rd w size S m news) (h1 : ∀ u ∈ news, u.oneCell' = true)
    (hbytes : (n + m) * bytes ≤ 140737488355328) (h63 : n + m ≤ 9223372036854775807)
    (h : ∀ A' c' w', Ow w' e size A' (n + m) c' (xs ++ news) → Mod (fp A) w w' → (A' = A ∨ A' = some ⟨w.heap.size, 0, none⟩) → K (a.put o.dst (.slice A' (n + m) c')) w') : o.wp P a w K Q := by
  obtain ⟨A', c', w', hrun, h2, h3, h4⟩ := run_append_ow (P := P) w t o.type e i z size bytes ht hi hz hsize hby hzs hsz A n c xs hown S m d news hr h1 hbytes h63
  unfold Oper.wp execOp
  simp only [ho, resolve, invoke, builtin, Sem.run_bind, Sem.run_pure, Result.andThen_ok, List.map_toArray, List.map_cons, List.map_nil, hs, hx, hrun]
  exact h A' c' w' h2 h3 h4

/-- .. as an arm of the walk, behind 'at_builtin'. -/
theorem wpList_append_ow {w : World} {ops : Array Oper} {rest : List Oper} {o : Oper} {a : Act} {Q : Exit → Act → World → Prop} (hgd : o.guard = none) (s x : Operand) (t : TypeId)
    (ho : o.op = .call { callee := .builtin .append, args := #[s, x], argTypes := #[t, t] })
    (e : TypeId) (i : TypeInfo) (z : Value) (size bytes : Nat) (ht : P.underlying t = some (.slice e)) (hi : P.info? e = some i) (hz : i.zero = some z)
    (hsize : i.size = size) (hby : i.bytes = bytes) (hzs : z.cells.size = size) (hsz : 0 < size)
    (A : Option Addr) (n c : Nat) (xs : List Value) (hs : a.eval s = .slice A n c) (hown : Ow w e size A n c xs)
    (S : Option Addr) (m d : Nat) (news : List Value) (hx : a.eval x = .slice S m d) (hr : Rd w size S m news) (h1 : ∀ u ∈ news, u.oneCell' = true)
    (hbytes : (n + m) * bytes ≤ 140737488355328) (h63 : n + m ≤ 9223372036854775807)
    (h : ∀ A' c' w', Ow w' e size A' (n + m) c' (xs ++ news) → Mod (fp A) w w' → (A' = A ∨ A' = some ⟨w.heap.size, 0, none⟩) → wpList P ops Q rest (a.put o.dst (.slice A' (n + m) c')) w') : wpList P ops Q (o :: rest) a w :=
  wpList_plain hgd fun _ hK => wp_append_ow w s x t ho e i z size bytes ht hi hz hsize hby hzs hsz A n c xs hs hown S m d news hx hr h1 hbytes h63 fun A' c' w' h2 h3 h4 => hK _ _ (h A' c' w' h2 h3 h4)

/-- .. as a step of a region that draws. -/
theorem step_append_ow {w : World} {ops : Array Oper} {o : Oper} {a : Act} {K : Act → World → Prop} {Q : Exit → Act → World → Prop} {E : Prop} (hgd : o.guard = none) (s x : Operand) (t : TypeId)
    (ho : o.op = .call { callee := .builtin .append, args := #[s, x], argTypes := #[t, t] })
    (e : TypeId) (i : TypeInfo) (z : Value) (size bytes : Nat) (ht : P.underlying t = some (.slice e)) (hi : P.info? e = some i) (hz : i.zero = some z)
    (hsize : i.size = size) (hby : i.bytes = bytes) (hzs : z.cells.size = size) (hsz : 0 < size)
    (A : Option Addr) (n c : Nat) (xs : List Value) (hs : a.eval s = .slice A n c) (hown : Ow w e size A n c xs)
    (S : Option Addr) (m d : Nat) (news : List Value) (hx : a.eval x = .slice S m d) (hr : Rd w size S m news) (h1 : ∀ u ∈ news, u.oneCell' = true)
    (hbytes : (n + m) * bytes ≤ 140737488355328) (h63 : n + m ≤ 9223372036854775807)
    (h : ∀ A' c' w', Ow w' e size A' (n + m) c' (xs ++ news) → Mod (fp A) w w' → (A' = A ∨ A' = some ⟨w.heap.size, 0, none⟩) → K (a.put o.dst (.slice A' (n + m) c')) w') :
    if Region.wanted o (yielded ops a.tmps) = true then Oper.wp P o a w K Q else E := by
  have hw : Region.wanted o (yielded ops a.tmps) = true := by simp [Region.wanted, hgd]
  rw [if_pos hw]
  exact wp_append_ow w s x t ho e i z size bytes ht hi hz hsize hby hzs hsz A n c xs hs hown S m d news hx hr h1 hbytes h63 h
end

/- BYTES. -/
def bv (b : UInt8) : Value := .int .u8 (b.toNat : Int)
def bvs (l : List UInt8) : List Value := l.map bv
theorem bvs_length (l : List UInt8) : (bvs l).length = l.length := by simp [bvs]
theorem bvs_append (a b : List UInt8) : bvs (a ++ b) = bvs a ++ bvs b := by simp [bvs]
theorem bvs_take (a : List UInt8) (k : Nat) : bvs (a.take k) = (bvs a).take k := by simp [bvs, List.map_take]
theorem bvs_drop (a : List UInt8) (k : Nat) : bvs (a.drop k) = (bvs a).drop k := by simp [bvs, List.map_drop]
theorem bvs_one (l : List UInt8) : ∀ u ∈ bvs l, u.oneCell' = true := by
  intro u hu
  simp only [bvs, List.mem_map] at hu
  obtain ⟨b, _, rfl⟩ := hu
  rfl
theorem bvs_get {l : List UInt8} {k : Nat} (h : k < l.length) : (bvs l)[k]? = some (.int .u8 (l[k].toNat : Int)) := by simp [bvs, bv, h]
theorem bvs_set (l : List UInt8) (k : Nat) (b : UInt8) : bvs (l.set k b) = (bvs l).set k (bv b) := by simp [bvs, List.map_set]
def ivs (l : List Int) : List Value := l.map (.int .i64 ·)
theorem ivs_length (l : List Int) : (ivs l).length = l.length := by simp [ivs]
theorem ivs_append (a b : List Int) : ivs (a ++ b) = ivs a ++ ivs b := by simp [ivs]
theorem ivs_one (l : List Int) : ∀ u ∈ ivs l, u.oneCell' = true := by
  intro u hu
  simp only [ivs, List.mem_map] at hu
  obtain ⟨b, _, rfl⟩ := hu
  rfl
theorem ivs_get {l : List Int} {k : Nat} (h : k < l.length) : (ivs l)[k]? = some (.int .i64 l[k]) := by simp [ivs, h]

/-- Read-only bytes; bytes of the call's own. -/
def RdB (w : World) (A : Option Addr) (n : Nat) (l : List UInt8) : Prop := Rd w 1 A n (bvs l)
def OwB (w : World) (e : TypeId) (A : Option Addr) (n c : Nat) (l : List UInt8) : Prop := Ow w e 1 A n c (bvs l)
theorem RdB.len {w : World} {A : Option Addr} {n : Nat} {l : List UInt8} (h : RdB w A n l) : l.length = n := by have := h.1; rw [bvs_length] at this; omega
theorem OwB.len {w : World} {e : TypeId} {A : Option Addr} {n c : Nat} {l : List UInt8} (h : OwB w e A n c l) : l.length = n := by have := h.1; rw [bvs_length] at this; omega

/-- The text of bytes. -/
def txt (l : List UInt8) : ByteArray := ⟨l.toArray⟩
@[simp, go_sem] theorem txt_toList (l : List UInt8) : (txt l).toList = l := ByteArray.toList_mk l

/-- 'string(b)'. -/
theorem run_string_of_bytes {P : Program} (w : World) (src dst e : TypeId) (hs : P.underlying src = some (.slice e)) (he : P.underlying e = some (.int .u8)) (hd : P.underlying dst = some .string)
    (A : Option Addr) (n c : Nat) (l : List UInt8) (h : RdB w A n l) : (convert src dst (.slice A n c)).run P w = .ok (.string (txt l)) w := by
  rw [run_convert_bytes_string w src dst e _ n c hs he hd]
  rcases A with _ | ad
  · have hl : l = [] := by
      rcases Nat.eq_zero_or_pos n with h0 | h0
      · exact List.eq_nil_of_length_eq_zero (by rw [h.len, h0])
      · obtain ⟨ad, h, _⟩ := h.2 h0; cases h
    subst hl
    simp [Conv.bytesToString]; rfl
  · have hcells : ∀ j u, (bvs l)[j]? = some u → w.cell? (ad.add j) = some u := by
      intro j u hu
      rcases Nat.eq_zero_or_pos n with h0 | h0
      · have : l = [] := List.eq_nil_of_length_eq_zero (by rw [h.len, h0])
        subst this; simp [bvs] at hu
      · obtain ⟨ad', h', hc⟩ := h.2 h0
        injection h' with h'
        subst h'
        exact hc j u hu
    have hl : (loadCells ad n).run P w = .ok ((l.map fun b => (b.toNat : Int)).map (Value.int .u8)).toArray w := by
      have := run_loadCells_list (P := P) w ad (bvs l) hcells
      rw [bvs_length, h.len] at this
      rw [this]
      simp [bvs, bv, Function.comp_def]
    rw [run_bytesToString w ad n c _ hl, foldl_push_bytes]
    simp [txt, ByteArray.empty, ByteArray.emptyWithCapacity, Function.comp_def]
    rfl
end Go.Proofs.YtdekehhmjehicaaGreat
/-
  More words for memory: a new block that reads as a list; a slice expression of bytes; strings of bytes; where rows lie apart. No condition.
-/
namespace Go.Proofs.YtdekehhmjehicaaGreat
set_option linter.unusedVariables false
set_option linter.unusedSimpArgs false
open Go.RowKit
theorem rdn (w : World) (e : TypeId) (size n g : Nat) (cs : Array Value) (fr : Nat × Nat) (hg : g = w.heap.size) (hs : cs.size = n * size) : Rd (w.alloc (.cells cs e fr)) size (some ⟨g, 0, none⟩) n cs.toList := by
  subst hg
  refine ⟨by simpa using hs, fun _ => ⟨_, rfl, fun j u hu => ?_⟩⟩
  rw [add_lit, World.cell?_alloc_mark]
  simpa using hu
theorem rdb_take {A : Option Addr} {w : World} {n : Nat} {l : List UInt8} (h : RdB w A n l) {k : Nat} (hk : k ≤ n) : RdB w A k (l.take k) := by
  have := Rd.take_ h hk
  rwa [Nat.mul_one, ← bvs_take] at this
theorem rdb_drop {A : Option Addr} {w : World} {n c : Nat} {l : List UInt8} (h : RdB w A n l) {k : Nat} (hk : k ≤ n) (hc : n ≤ c) : RdB w (if c = k then A else A.map (·.add k)) (n - k) (l.drop k) := by
  have := Rd.drop_ h hk hc
  rwa [Nat.mul_one, ← bvs_drop] at this
theorem wrap_u64_lt (n : Int) : 0 ≤ IntKind.u64.wrap n ∧ IntKind.u64.wrap n < 18446744073709551616 := by
  rw [IntKind.wrap_u64]; omega
/-- 'int(uint(x) % uint(m))'. -/
theorem umod (x m : Int) (h0 : 0 < m) (h1 : m ≤ 4611686018427387904) : ∃ k : Nat, (k : Int) < m ∧ wrap64 ((IntKind.u64.wrap x).tmod m) = (k : Int) := by
  have hx := (wrap_u64_lt x).1
  generalize IntKind.u64.wrap x = q at hx
  have e : q.tmod m = q % m := Int.tmod_eq_emod_of_nonneg hx
  have l1 := Int.emod_nonneg q (b := m) (by omega)
  have l2 := Int.emod_lt_of_pos q h0
  refine ⟨(q % m).toNat, by omega, ?_⟩
  rw [e, IntWalk.wrap64_in _ ⟨by omega, by omega⟩]
  omega
theorem Ow.ne_ow {w : World} {e e' : TypeId} {s s' n n' c c' : Nat} {A A' : Option Addr} {xs xs' : List Value} (h : Ow w e s A n c xs) (h' : Ow w e' s' A' n' c' xs') (hne : e ≠ e') : ∀ k, fp A k → ¬ fp A' k := by
  rintro k ⟨a, ha, rfl⟩ ⟨b, hb, hab⟩
  rcases h.2.2.2 with ⟨h4, _⟩ | ⟨g, cur, h4, hg, _⟩
  · rw [h4] at ha; cases ha
  · rw [h4] at ha; cases ha
    rcases h'.2.2.2 with ⟨h4, _⟩ | ⟨g', cur', h4, hg', _⟩
    · rw [h4] at hb; cases hb
    · rw [h4] at hb; cases hb
      simp only at hab
      subst hab
      exact hg.ne_ hg' hne rfl
theorem Fresh.apart {w : World} {A : Option Addr} (h : Fresh w A) {F : Nat → Prop} (hF : ∀ k, F k → k < w.heap.size) : ∀ k, fp A k → ¬ F k := by
  rintro k ⟨a, ha, rfl⟩ hf
  have := h a ha
  have := hF _ hf
  omega
theorem Fresh.later {w w1 : World} {A : Option Addr} (h : Fresh w1 A) (hs : w.heap.size ≤ w1.heap.size) : Fresh w A := fun a ha => Nat.le_trans hs (h a ha)

/- LISTS OF UNIFORM CELLS. -/
theorem flat_length {α : Type} (f : α → List Value) (size : Nat) (hf : ∀ e, (f e).length = size) (es : List α) : (es.flatMap f).length = es.length * size := by
  induction es with
  | nil => simp
  | cons e es ih => rw [List.flatMap_cons, List.length_append, ih, hf, List.length_cons, Nat.succ_mul]; omega
theorem flat_get {α : Type} (f : α → List Value) (size : Nat) (hf : ∀ e, (f e).length = size) : ∀ (es : List α) (j : Nat) (e : α), es[j]? = some e → ∀ i, i < size → (es.flatMap f)[j * size + i]? = (f e)[i]? := by
  intro es
  induction es with
  | nil => intro j e h; simp at h
  | cons x es ih =>
    intro j e h i hi
    cases j with
    | zero =>
      simp at h; subst h
      rw [List.flatMap_cons, List.getElem?_append_left (by rw [hf]; omega)]
      simp
    | succ j =>
      rw [List.flatMap_cons, List.getElem?_append_right (by rw [hf, Nat.succ_mul]; omega), hf]
      have e1 : (j + 1) * size + i - size = j * size + i := by rw [Nat.succ_mul]; omega
      rw [e1]
      exact ih j e (by simpa using h) i hi

/-- A slice's value. -/
structure SV where
  a : Option Addr
  n : Nat
  c : Nat
def SV.v (s : SV) : Value := .slice s.a s.n s.c
/-- A list of texts of bytes: their slices' values ss, what they hold ls. 'Bd': all lie below that block. -/
def Txts (w : World) (Bd : Nat) (ss : List SV) (ls : List (List UInt8)) : Prop :=
  ss.length = ls.length ∧ ∀ (i : Nat) (s : SV) (l : List UInt8), ss[i]? = some s → ls[i]? = some l → RdB w s.a s.n l ∧ s.n ≤ s.c ∧ s.c ≤ 140737488351232 ∧ (0 < s.n → ∀ k, fp s.a k → k < Bd)
section
variable {w w' : World} {Bd : Nat} {ss : List SV} {ls : List (List UInt8)}
theorem Txts.mod {F : Nat → Prop} (h : Txts w Bd ss ls) (hm : Mod F w w') (hF : ∀ k, F k → Bd ≤ k) : Txts w' Bd ss ls :=
  ⟨h.1, fun i s l hs hl => by
    obtain ⟨h1, h2, h3, h4⟩ := h.2 i s l hs hl
    exact ⟨h1.mod' hm fun h0 k hk hf => by have := hF k hf; have := h4 h0 k hk; omega, h2, h3, h4⟩⟩
theorem Txts.mod0 (h : Txts w Bd ss ls) (hm : Mod none_ w w') : Txts w' Bd ss ls := h.mod (F := none_) hm fun _ hf => False.elim hf
theorem Txts.more {B' : Nat} (h : Txts w Bd ss ls) (hB : Bd ≤ B') : Txts w B' ss ls :=
  ⟨h.1, fun i s l hs hl => by
    obtain ⟨h1, h2, h3, h4⟩ := h.2 i s l hs hl
    exact ⟨h1, h2, h3, fun h0 k hk => Nat.lt_of_lt_of_le (h4 h0 k hk) hB⟩⟩
theorem Txts.nil : Txts w Bd [] [] := ⟨rfl, fun i s l hs _ => by simp at hs⟩
theorem Txts.snoc (h : Txts w Bd ss ls) {s : SV} {l : List UInt8} (h1 : RdB w s.a s.n l) (h2 : s.n ≤ s.c) (h3 : s.c ≤ 140737488351232) (h4 : 0 < s.n → ∀ k, fp s.a k → k < Bd) : Txts w Bd (ss ++ [s]) (ls ++ [l]) := by
  refine ⟨by simp [h.1], fun i s' l' hs hl => ?_⟩
  by_cases hi : i < ss.length
  · rw [List.getElem?_append_left hi] at hs
    rw [List.getElem?_append_left (by rw [← h.1]; exact hi)] at hl
    exact h.2 i s' l' hs hl
  · rw [List.getElem?_append_right (by omega)] at hs
    rw [List.getElem?_append_right (by rw [← h.1]; omega), ← h.1] at hl
    have e : i - ss.length = 0 := by
      rcases Nat.lt_or_ge (i - ss.length) 1 with h5 | h5
      · omega
      · rw [List.getElem?_eq_none (by simpa using h5)] at hs; cases hs
    rw [e] at hs hl
    simp at hs hl
    subst hs hl
    exact ⟨h1, h2, h3, h4⟩
theorem Txts.take_ (h : Txts w Bd ss ls) (k : Nat) : Txts w Bd (ss.take k) (ls.take k) := by
  refine ⟨by rw [List.length_take, List.length_take, h.1], fun i s l hs hl => ?_⟩
  rw [List.getElem?_take] at hs hl
  by_cases hi : i < k
  · rw [if_pos hi] at hs hl
    exact h.2 i s l hs hl
  · rw [if_neg hi] at hs
    cases hs
end
end Go.Proofs.YtdekehhmjehicaaGreat
/-
  append of bytes as one step of the walk, with the types of this program filled in; slices of bytes that the walk builds. No condition.
-/
namespace Go.Proofs.YtdekehhmjehicaaGreat
set_option linter.unusedVariables false
set_option linter.unusedSimpArgs false
open Go.RowKit
theorem u8info : (Tryz.prog.info? 5).map (fun i => (i.zero, i.size, i.bytes)) = some (some (.int .u8 0), 1, 1) := by kernel_rfl
theorem app8 {w : World} {ops : Array Oper} {rest : List Oper} {o : Oper} {a : Act} {Q : Exit → Act → World → Prop} (hgd : o.guard = none) (s x : Operand)
    (ho : o.op = .call { callee := .builtin .append, args := #[s, x], argTypes := #[59, 59] })
    {A : Option Addr} {n c : Nat} {xs : List UInt8} (hs : a.eval s = .slice A n c) (hown : OwB w 5 A n c xs)
    {S : Option Addr} {m d : Nat} {news : List UInt8} (hx : a.eval x = .slice S m d) (hr : RdB w S m news) (hb : n + m ≤ 140737488355328)
    (h : ∀ A' c' w', OwB w' 5 A' (n + m) c' (xs ++ news) → Mod (fp A) w w' → (A' = A ∨ A' = some ⟨w.heap.size, 0, none⟩) → wpList Tryz.prog ops Q rest (a.put o.dst (.slice A' (n + m) c')) w') : wpList Tryz.prog ops Q (o :: rest) a w := by
  obtain ⟨i0, hi, hz0, hz1, hz2⟩ := info_parts u8info
  refine wpList_append_ow hgd s x 59 ho 5 i0 _ 1 1 Tryz.underlying59 hi hz0 hz1 hz2 rfl (by omega) A n c (bvs xs) hs hown S m d (bvs news) hx hr (bvs_one _) (by omega) (by omega) ?_
  intro A' c' w' h1
  rw [← bvs_append] at h1
  exact h A' c' w' h1
theorem rdb_one (w : World) (e : TypeId) {x : Int} {b : UInt8} (h : x = (b.toNat : Int)) : RdB (w.alloc (.cells #[.int .u8 x] e)) (some ⟨w.heap.size, 0, none⟩) 1 [b] := by
  subst h
  exact rdn w e 1 1 w.heap.size #[.int .u8 (b.toNat : Int)] (0, 0) rfl rfl
theorem i64info : (Tryz.prog.info? 2).map (fun i => (i.zero, i.size, i.bytes)) = some (some (.int .i64 0), 1, 8) := by kernel_rfl
def RdI (w : World) (A : Option Addr) (n : Nat) (l : List Int) : Prop := Rd w 1 A n (ivs l)
def OwI (w : World) (A : Option Addr) (n c : Nat) (l : List Int) : Prop := Ow w 2 1 A n c (ivs l)
theorem RdI.len {w : World} {A : Option Addr} {n : Nat} {l : List Int} (h : RdI w A n l) : l.length = n := by have := h.1; rw [ivs_length] at this; omega
theorem OwI.len {w : World} {A : Option Addr} {n c : Nat} {l : List Int} (h : OwI w A n c l) : l.length = n := by have := h.1; rw [ivs_length] at this; omega
theorem rdi_one (w : World) (e : TypeId) (x : Int) : RdI (w.alloc (.cells #[.int .i64 x] e)) (some ⟨w.heap.size, 0, none⟩) 1 [x] :=
  rdn w e 1 1 w.heap.size #[.int .i64 x] (0, 0) rfl rfl
/-- A row that was new stays new. -/
theorem Fresh.app {w w1 : World} {A A' : Option Addr} (h : Fresh w A) (hs : w.heap.size ≤ w1.heap.size) (hA : A' = A ∨ A' = some ⟨w1.heap.size, 0, none⟩) : Fresh w A' := by
  rcases hA with rfl | rfl
  · exact h
  · intro a ha; cases ha; exact hs
theorem Mod.app {w w1 w2 : World} {A : Option Addr} (h : Mod none_ w w1) (hf : Fresh w A) (h2 : Mod (fp A) w1 w2) : Mod none_ w w2 :=
  h.then h2 fun i hi hk => by
    obtain ⟨a, ha, rfl⟩ := hk
    have := hf a ha
    omega
end Go.Proofs.YtdekehhmjehicaaGreat
/-
  Orders, entries, records, messages: what they are, plain; legs and Insts in memory.
-/
namespace Go.Proofs.YtdekehhmjehicaaGreat
set_option linter.unusedVariables false
set_option linter.unusedSimpArgs false
open Go.RowKit
/-- a leg -/
structure Lg where
  n : List UInt8
  x : Int
deriving DecidableEq
/-- an Inst -/
structure Is where
  r : Int
  n : Int
deriving DecidableEq
/-- an order -/
structure Od where
  c : Int
  s : Int
  k : Int
  acct : List UInt8
  peer : List UInt8
  sum : Int
  legs : List Lg
  per : Int
  hold : Int
  note : List UInt8
deriving DecidableEq
/-- an entry -/
structure En where
  o : Od
  none : Bool
  deps : List Is
deriving DecidableEq
/-- a record -/
structure Rc where
  i : Is
  bal : Int
  st : Int
  by_ : Int
  e : En
deriving DecidableEq
/-- a message -/
structure Mg where
  frm : Int
  to : Int
  kind : Int
  r : Rc
deriving DecidableEq
def od0 : Od := ⟨0, 0, 0, [], [], 0, [], 0, 0, []⟩
def en0 : En := ⟨od0, false, []⟩
theorem txt_nil : txt [] = (⟨#[]⟩ : ByteArray) := rfl
theorem txt_eq {a b : List UInt8} : txt a = txt b ↔ a = b := by
  constructor
  · intro h
    have : (txt a).data.toList = (txt b).data.toList := by rw [h]
    simpa [txt] using this
  · rintro rfl; rfl
/-- legs in memory -/
def lgs (ls : List Lg) : List Value := ls.flatMap fun l => [.string (txt l.n), .int .i64 l.x]
theorem lgs_length (ls : List Lg) : (lgs ls).length = ls.length * 2 := flat_length _ 2 (fun _ => rfl) ls
theorem lgs_append (C D : List Lg) : lgs (C ++ D) = lgs C ++ lgs D := by unfold lgs; rw [List.flatMap_append]
def RdL (w : World) (A : Option Addr) (n : Nat) (ls : List Lg) : Prop := Rd w 2 A n (lgs ls)
theorem RdL.len {w : World} {A : Option Addr} {n : Nat} {ls : List Lg} (h : RdL w A n ls) : ls.length = n := by have := h.1; rw [lgs_length] at this; omega
theorem RdL.mod0 {w w' : World} {A : Option Addr} {n : Nat} {ls : List Lg} (h : RdL w A n ls) (hm : Mod none_ w w') : RdL w' A n ls := Rd.mod0 h hm
theorem rdl_get {w : World} {A : Option Addr} {n : Nat} {ls : List Lg} (h : RdL w A n ls) {j : Nat} (hj : j < n) : ∃ b o l, A = some ⟨b, o, none⟩ ∧ l ∈ ls ∧ ls[j]? = some l ∧
    w.cell? ⟨b, o + j*2, none⟩ = some (.string (txt l.n)) ∧ w.cell? ⟨b, o + j*2 + 1, none⟩ = some (.int .i64 l.x) := by
  have hl := h.len
  obtain ⟨b, o, e, hc⟩ := Rd.form h (show 0 < n by omega) (by omega)
  have hjl : j < ls.length := by omega
  have hg := flat_get (fun l : Lg => [Value.string (txt l.n), .int .i64 l.x]) 2 (fun _ => rfl) ls j ls[j] (List.getElem?_eq_getElem hjl)
  refine ⟨b, o, ls[j], e, List.getElem_mem hjl, List.getElem?_eq_getElem hjl, ?_, ?_⟩
  · exact hc (j*2) _ (hg 0 (by omega))
  · rw [Nat.add_assoc]; exact hc (j*2+1) _ (hg 1 (by omega))
/-- Insts in memory -/
def iss (ls : List Is) : List Value := ls.flatMap fun l => [.int .i64 l.r, .int .i64 l.n]
theorem iss_length (ls : List Is) : (iss ls).length = ls.length * 2 := flat_length _ 2 (fun _ => rfl) ls
theorem iss_append (C D : List Is) : iss (C ++ D) = iss C ++ iss D := by unfold iss; rw [List.flatMap_append]
def RdP (w : World) (A : Option Addr) (n : Nat) (ls : List Is) : Prop := Rd w 2 A n (iss ls)
theorem RdP.len {w : World} {A : Option Addr} {n : Nat} {ls : List Is} (h : RdP w A n ls) : ls.length = n := by have := h.1; rw [iss_length] at this; omega
theorem RdP.mod0 {w w' : World} {A : Option Addr} {n : Nat} {ls : List Is} (h : RdP w A n ls) (hm : Mod none_ w w') : RdP w' A n ls := Rd.mod0 h hm
theorem rdp_get {w : World} {A : Option Addr} {n : Nat} {ls : List Is} (h : RdP w A n ls) {j : Nat} (hj : j < n) : ∃ b o l, A = some ⟨b, o, none⟩ ∧ l ∈ ls ∧ ls[j]? = some l ∧
    w.cell? ⟨b, o + j*2, none⟩ = some (.int .i64 l.r) ∧ w.cell? ⟨b, o + j*2 + 1, none⟩ = some (.int .i64 l.n) := by
  have hl := h.len
  obtain ⟨b, o, e, hc⟩ := Rd.form h (show 0 < n by omega) (by omega)
  have hjl : j < ls.length := by omega
  have hg := flat_get (fun l : Is => [Value.int .i64 l.r, .int .i64 l.n]) 2 (fun _ => rfl) ls j ls[j] (List.getElem?_eq_getElem hjl)
  refine ⟨b, o, ls[j], e, List.getElem_mem hjl, List.getElem?_eq_getElem hjl, ?_, ?_⟩
  · exact hc (j*2) _ (hg 0 (by omega))
  · rw [Nat.add_assoc]; exact hc (j*2+1) _ (hg 1 (by omega))
/-- the memory of an order, of an entry -/
structure OdM (w : World) (o : Od) (L : SV) : Prop where
  rd : RdL w L.a L.n o.legs
  cap : L.n ≤ L.c
structure EnM (w : World) (e : En) (L D : SV) : Prop where
  od : OdM w e.o L
  rd : RdP w D.a D.n e.deps
  cap : D.n ≤ D.c
theorem OdM.mod0 {w w' : World} {o : Od} {L : SV} (h : OdM w o L) (hm : Mod none_ w w') : OdM w' o L := ⟨h.rd.mod0 hm, h.cap⟩
theorem EnM.mod0 {w w' : World} {e : En} {L D : SV} (h : EnM w e L D) (hm : Mod none_ w w') : EnM w' e L D := ⟨h.od.mod0 hm, h.rd.mod0 hm, h.cap⟩
theorem od0_mem (w : World) : OdM w od0 ⟨none, 0, 0⟩ := ⟨Rd.none_, Nat.le_refl _⟩
theorem en0_mem (w : World) : EnM w en0 ⟨none, 0, 0⟩ ⟨none, 0, 0⟩ := ⟨od0_mem w, Rd.none_, Nat.le_refl _⟩
/-- two of a kind are compared -/
def lgV (l : Lg) : Value := .agg #[.string (txt l.n), .int .i64 l.x]
def isV (l : Is) : Value := .agg #[.int .i64 l.r, .int .i64 l.n]
set_option maxRecDepth 100000 in
theorem eqIn_lg (W : World) (x y : Lg) : (Op.equalIn 10000 109 (lgV x) (lgV y)).run Tryz.prog W = .ok (decide (x = y)) W := by
  unfold lgV
  rw [run_equalIn_agg W 9999 109 _ _ (by kernel_rfl) (by kernel_rfl)]
  obtain ⟨fs, hfs⟩ : ∃ fs, (Tryz.prog.fieldsOf 109).toList = fs := ⟨_, rfl⟩
  rw [hfs]
  have e : fs = (Tryz.prog.fieldsOf 109).toList := hfs.symm
  simp [go_sem] at e
  clear hfs
  subst e
  obtain ⟨xn, xh⟩ := x
  obtain ⟨yn, yh⟩ := y
  by_cases h1 : xn = yn
  · subst h1
    by_cases h2 : xh = yh
    · subst h2
      simp [go_sem]
    · simp [go_sem, h2]
  · simp [go_sem, h1, txt_eq]
theorem neq_lg (W : World) (x y : Lg) : (binOp .neq 109 (lgV x) (lgV y)).run Tryz.prog W = .ok (.bool (!decide (x = y))) W := by
  have := eqIn_lg W x y
  unfold lgV at *
  rw [run_neq_struct, this]; rfl
set_option maxRecDepth 100000 in
theorem eqIn_is (W : World) (x y : Is) : (Op.equalIn 10000 36 (isV x) (isV y)).run Tryz.prog W = .ok (decide (x = y)) W := by
  unfold isV
  rw [run_equalIn_agg W 9999 36 _ _ (by kernel_rfl) (by kernel_rfl)]
  obtain ⟨fs, hfs⟩ : ∃ fs, (Tryz.prog.fieldsOf 36).toList = fs := ⟨_, rfl⟩
  rw [hfs]
  have e : fs = (Tryz.prog.fieldsOf 36).toList := hfs.symm
  simp [go_sem] at e
  clear hfs
  subst e
  obtain ⟨xn, xh⟩ := x
  obtain ⟨yn, yh⟩ := y
  by_cases h1 : xn = yn
  · subst h1
    by_cases h2 : xh = yh
    · subst h2
      simp [go_sem]
    · simp [go_sem, h2]
  · simp [go_sem, h1]
theorem neq_is (W : World) (x y : Is) : (binOp .neq 36 (isV x) (isV y)).run Tryz.prog W = .ok (.bool (!decide (x = y))) W := by
  have := eqIn_is W x y
  unfold isV at *
  rw [run_neq_struct, this]; rfl
theorem eql_is (W : World) (x y : Is) : (binOp .eql 36 (isV x) (isV y)).run Tryz.prog W = .ok (.bool (decide (x = y))) W := by
  have := eqIn_is W x y
  unfold isV at *
  rw [run_eql_struct, this]; rfl
set_option maxRecDepth 100000 in
theorem eqIn_id (W : World) (x y : Is) : (Op.equalIn 10000 38 (isV x) (isV y)).run Tryz.prog W = .ok (decide (x = y)) W := by
  unfold isV
  rw [run_equalIn_agg W 9999 38 _ _ (by kernel_rfl) (by kernel_rfl)]
  obtain ⟨fs, hfs⟩ : ∃ fs, (Tryz.prog.fieldsOf 38).toList = fs := ⟨_, rfl⟩
  rw [hfs]
  have e : fs = (Tryz.prog.fieldsOf 38).toList := hfs.symm
  simp [go_sem] at e
  clear hfs
  subst e
  obtain ⟨xn, xh⟩ := x
  obtain ⟨yn, yh⟩ := y
  by_cases h1 : xn = yn
  · subst h1
    by_cases h2 : xh = yh
    · subst h2
      simp [go_sem]
    · simp [go_sem, h2]
  · simp [go_sem, h1]
theorem eql_id (W : World) (x y : Is) : (binOp .eql 38 (isV x) (isV y)).run Tryz.prog W = .ok (.bool (decide (x = y))) W := by
  have := eqIn_id W x y
  unfold isV at *
  rw [run_eql_struct, this]; rfl
end Go.Proofs.YtdekehhmjehicaaGreat
/-
  slices.Equal of legs, of Insts.
-/
namespace Go.Proofs.YtdekehhmjehicaaGreat
set_option linter.unusedVariables false
set_option linter.unusedSimpArgs false
open Go.RowKit
set_option maxRecDepth 100000 in
set_option maxHeartbeats 4000000 in
theorem eqL_ok (w : World) (A B : Option Addr) (n m c d : Nat) (C D : List Lg) (hA : RdL w A n C) (hB : RdL w B m D) (hn : n ≤ 140737488355328) (hm : m ≤ 140737488355328) :
    Calls Tryz.prog 70 #[.slice A n c, .slice B m d] w fun e w' => e = .returned (.bool (decide (C = D))) ∧ ∃ k, w' = w.drewN k := by
  have la := hA.len
  have lb := hB.len
  by_cases hnm : n = m
  · subst hnm
    replace hA := Lib.hid hA
    replace hB := Lib.hid hB
    replace la := Lib.hid la
    replace lb := Lib.hid lb
    go_enter Tryz.func70, Tryz.ntmps70
    go_wp2_with fail
    go_loopg [13] n (fun k x wr => ∃ j : Nat, x = .int .i64 j ∧ j + k = n ∧ C.take j = D.take j ∧ ∃ q, wr = w.drewN q)
    case atStart => exact ⟨0, rfl, by omega, rfl, 0, rfl⟩
    case round =>
      obtain ⟨j, rfl, hj, htk, q, hq⟩ := hrel
      by_cases hlt : j < n
      · have hjC : j < C.length := by rw [la.out]; exact hlt
        have hjD : j < D.length := by rw [lb.out]; exact hlt
        obtain ⟨b, o, x0, rfl, -, hx0, a1, a2⟩ := rdl_get (w := w.drewN q) (Rd.drewN hA.out q) hlt
        rw [List.getElem?_eq_getElem hjC] at hx0
        injection hx0 with hx0
        subst hx0
        obtain ⟨b', o', y0, rfl, -, hy0, b1, b2⟩ := rdl_get (w := w.drewN q) (Rd.drewN hB.out q) hlt
        rw [List.getElem?_eq_getElem hjD] at hy0
        injection hy0 with hy0
        subst hy0
        rw [← hq] at a1 a2 b1 b2
        have t1 : C.take (j+1) = C.take j ++ [C[j]] := by rw [List.take_succ_eq_append_getElem hjC]
        have t2 : D.take (j+1) = D.take j ++ [D[j]] := by rw [List.take_succ_eq_append_getElem hjD]
        generalize C[j] = x at *
        generalize D[j] = y at *
        have hne := fun W => neq_lg W x y
        unfold lgV at hne
        have hdiff : C.take j = D.take j → ¬ x = y → ¬ C = D := by
          intro h1 h2 h3
          subst h3
          rw [t1] at t2
          have := List.append_cancel_left t2
          simp at this
          exact h2 this
        by_cases hxy : x = y
        · rw [decide_eq_true hxy] at hne
          replace hq := Lib.hid hq
          replace t1 := Lib.hid t1
          replace t2 := Lib.hid t2
          replace htk := Lib.hid htk
          replace hjC := Lib.hid hjC
          replace hjD := Lib.hid hjD
          replace hxy := Lib.hid hxy
          replace hdiff := Lib.hid hdiff
          go_wp2_with (go_quiet (fail))
          go_roundg (gk - 1)
          case measure => omega
          case rel => exact ⟨j + 1, by go_num, by omega, by rw [t1.out, t2.out, htk.out, hxy.out], _, by rw [hq.out, World.drewN_drewN]⟩
        · rw [decide_eq_false hxy] at hne
          have hno : decide (C = D) = false := decide_eq_false (hdiff htk hxy)
          replace hq := Lib.hid hq
          replace t1 := Lib.hid t1
          replace t2 := Lib.hid t2
          replace htk := Lib.hid htk
          replace hjC := Lib.hid hjC
          replace hjD := Lib.hid hjD
          replace hxy := Lib.hid hxy
          replace hdiff := Lib.hid hdiff
          replace hno := Lib.hid hno
          go_wp2_with (go_quiet (fail))
          go_ret
          exact ⟨by rw [hno.out]; rfl, _, by rw [hq.out, World.drewN_drewN]⟩
      · have hjn : j = n := by omega
        subst hjn
        have heq : decide (C = D) = true := by
          refine decide_eq_true ?_
          rw [List.take_of_length_le (by have := la.out; omega), List.take_of_length_le (by have := lb.out; omega)] at htk
          exact htk
        replace htk := Lib.hid htk
        replace hq := Lib.hid hq
        replace heq := Lib.hid heq
        go_wp2_with fail
        go_ret
        exact ⟨by rw [heq.out]; rfl, q, hq.out⟩
  · have hno : decide (C = D) = false := decide_eq_false (fun h => hnm (by rw [← la, ← lb, h]))
    have hnm2 : ((n : Int) == (m : Int)) = false := by simp; omega
    replace hA := Lib.hid hA
    replace hB := Lib.hid hB
    replace la := Lib.hid la
    replace lb := Lib.hid lb
    replace hnm := Lib.hid hnm
    replace hno := Lib.hid hno
    go_enter Tryz.func70, Tryz.ntmps70
    go_wp2_with fail
    go_ret
    exact ⟨by rw [hno.out]; rfl, 0, rfl⟩
set_option maxRecDepth 100000 in
set_option maxHeartbeats 4000000 in
theorem eqP_ok (w : World) (A B : Option Addr) (n m c d : Nat) (C D : List Is) (hA : RdP w A n C) (hB : RdP w B m D) (hn : n ≤ 140737488355328) (hm : m ≤ 140737488355328) :
    Calls Tryz.prog 61 #[.slice A n c, .slice B m d] w fun e w' => e = .returned (.bool (decide (C = D))) ∧ ∃ k, w' = w.drewN k := by
  have la := hA.len
  have lb := hB.len
  by_cases hnm : n = m
  · subst hnm
    replace hA := Lib.hid hA
    replace hB := Lib.hid hB
    replace la := Lib.hid la
    replace lb := Lib.hid lb
    go_enter Tryz.func61, Tryz.ntmps61
    go_wp2_with fail
    go_loopg [13] n (fun k x wr => ∃ j : Nat, x = .int .i64 j ∧ j + k = n ∧ C.take j = D.take j ∧ ∃ q, wr = w.drewN q)
    case atStart => exact ⟨0, rfl, by omega, rfl, 0, rfl⟩
    case round =>
      obtain ⟨j, rfl, hj, htk, q, hq⟩ := hrel
      by_cases hlt : j < n
      · have hjC : j < C.length := by rw [la.out]; exact hlt
        have hjD : j < D.length := by rw [lb.out]; exact hlt
        obtain ⟨b, o, x0, rfl, -, hx0, a1, a2⟩ := rdp_get (w := w.drewN q) (Rd.drewN hA.out q) hlt
        rw [List.getElem?_eq_getElem hjC] at hx0
        injection hx0 with hx0
        subst hx0
        obtain ⟨b', o', y0, rfl, -, hy0, b1, b2⟩ := rdp_get (w := w.drewN q) (Rd.drewN hB.out q) hlt
        rw [List.getElem?_eq_getElem hjD] at hy0
        injection hy0 with hy0
        subst hy0
        rw [← hq] at a1 a2 b1 b2
        have t1 : C.take (j+1) = C.take j ++ [C[j]] := by rw [List.take_succ_eq_append_getElem hjC]
        have t2 : D.take (j+1) = D.take j ++ [D[j]] := by rw [List.take_succ_eq_append_getElem hjD]
        generalize C[j] = x at *
        generalize D[j] = y at *
        have hne := fun W => neq_is W x y
        unfold isV at hne
        have hdiff : C.take j = D.take j → ¬ x = y → ¬ C = D := by
          intro h1 h2 h3
          subst h3
          rw [t1] at t2
          have := List.append_cancel_left t2
          simp at this
          exact h2 this
        by_cases hxy : x = y
        · rw [decide_eq_true hxy] at hne
          replace hq := Lib.hid hq
          replace t1 := Lib.hid t1
          replace t2 := Lib.hid t2
          replace htk := Lib.hid htk
          replace hjC := Lib.hid hjC
          replace hjD := Lib.hid hjD
          replace hxy := Lib.hid hxy
          replace hdiff := Lib.hid hdiff
          go_wp2_with (go_quiet (fail))
          go_roundg (gk - 1)
          case measure => omega
          case rel => exact ⟨j + 1, by go_num, by omega, by rw [t1.out, t2.out, htk.out, hxy.out], _, by rw [hq.out, World.drewN_drewN]⟩
        · rw [decide_eq_false hxy] at hne
          have hno : decide (C = D) = false := decide_eq_false (hdiff htk hxy)
          replace hq := Lib.hid hq
          replace t1 := Lib.hid t1
          replace t2 := Lib.hid t2
          replace htk := Lib.hid htk
          replace hjC := Lib.hid hjC
          replace hjD := Lib.hid hjD
          replace hxy := Lib.hid hxy
          replace hdiff := Lib.hid hdiff
          replace hno := Lib.hid hno
          go_wp2_with (go_quiet (fail))
          go_ret
          exact ⟨by rw [hno.out]; rfl, _, by rw [hq.out, World.drewN_drewN]⟩
      · have hjn : j = n := by omega
        subst hjn
        have heq : decide (C = D) = true := by
          refine decide_eq_true ?_
          rw [List.take_of_length_le (by have := la.out; omega), List.take_of_length_le (by have := lb.out; omega)] at htk
          exact htk
        replace htk := Lib.hid htk
        replace hq := Lib.hid hq
        replace heq := Lib.hid heq
        go_wp2_with fail
        go_ret
        exact ⟨by rw [heq.out]; rfl, q, hq.out⟩
  · have hno : decide (C = D) = false := decide_eq_false (fun h => hnm (by rw [← la, ← lb, h]))
    have hnm2 : ((n : Int) == (m : Int)) = false := by simp; omega
    replace hA := Lib.hid hA
    replace hB := Lib.hid hB
    replace la := Lib.hid la
    replace lb := Lib.hid lb
    replace hnm := Lib.hid hnm
    replace hno := Lib.hid hno
    go_enter Tryz.func61, Tryz.ntmps61
    go_wp2_with fail
    go_ret
    exact ⟨by rw [hno.out]; rfl, 0, rfl⟩
end Go.Proofs.YtdekehhmjehicaaGreat
/-
  order.Same, runner.Same.
-/
namespace Go.Proofs.YtdekehhmjehicaaGreat
set_option linter.unusedVariables false
set_option linter.unusedSimpArgs false
open Go.RowKit
set_option maxRecDepth 100000 in
set_option maxHeartbeats 4000000 in
theorem sameO_ok (w : World) (a b : Od) (L M : SV) (ha : OdM w a L) (hb : OdM w b M) (hL : L.n ≤ 140737488355328) (hM : M.n ≤ 140737488355328) :
    Calls Tryz.prog 60 #[.agg #[.int .i64 a.c, .int .i64 a.s, .int .i64 a.k, .string (txt a.acct), .string (txt a.peer), .int .i64 a.sum, .slice L.a L.n L.c, .int .i64 a.per, .int .i64 a.hold, .string (txt a.note)], .agg #[.int .i64 b.c, .int .i64 b.s, .int .i64 b.k, .string (txt b.acct), .string (txt b.peer), .int .i64 b.sum, .slice M.a M.n M.c, .int .i64 b.per, .int .i64 b.hold, .string (txt b.note)]] w fun e w' => e = .returned (.bool (decide (a = b))) ∧ Mod none_ w w' := by
  have kE := Lib.hid (fun W (h : Mod none_ w W) => eqL_ok W L.a M.a L.n M.n L.c M.c a.legs b.legs (ha.rd.mod0 h) (hb.rd.mod0 h) hL hM)
  have hid := fun W => eql_id W ⟨a.c, a.s⟩ ⟨b.c, b.s⟩
  unfold isV at hid
  replace ha := Lib.hid ha
  replace hb := Lib.hid hb
  obtain ⟨ac, as_, ak, aa, ap, asum, al, aper, ah, an⟩ := a
  obtain ⟨bc, bs_, bk, ba, bp, bsum, bl, bper, bh, bn⟩ := b
  dsimp only at kE hid ⊢
  go_enter Tryz.func60, Tryz.ntmps60
  go_wp2_with fail
  · with_reducible refine (kE.out _ (((Mod.refl none_ w).alloc _).alloc _)).mono ?_
    rintro e w1 ⟨rfl, q, hq⟩
    dsimp only
    have hm : Mod none_ w w1 := by rw [hq]; exact (((Mod.refl none_ w).alloc _).alloc _).drewN _
    replace hm := Lib.hid hm
    replace hq := Lib.hid hq
    go_wp2_with fail
    go_ret
    refine ⟨?_, hm.out⟩
    simp_all
  all_goals
    go_ret
    refine ⟨by simp_all, ((Mod.refl none_ w).alloc _).alloc _⟩
theorem en_eq {a b : En} : a = b ↔ a.none = b.none ∧ a.o = b.o ∧ a.deps = b.deps := by
  cases a; cases b; simp only [En.mk.injEq]; exact ⟨fun ⟨x, y, z⟩ => ⟨y, x, z⟩, fun ⟨x, y, z⟩ => ⟨y, x, z⟩⟩
set_option maxRecDepth 100000 in
set_option maxHeartbeats 4000000 in
theorem sameE_ok (w : World) (a b : En) (L D M E : SV) (ha : EnM w a L D) (hb : EnM w b M E) (hL : L.n ≤ 140737488355328) (hD : D.n ≤ 140737488355328) (hM : M.n ≤ 140737488355328) (hE : E.n ≤ 140737488355328) :
    Calls Tryz.prog 44 #[.agg #[.int .i64 a.o.c, .int .i64 a.o.s, .int .i64 a.o.k, .string (txt a.o.acct), .string (txt a.o.peer), .int .i64 a.o.sum, .slice L.a L.n L.c, .int .i64 a.o.per, .int .i64 a.o.hold, .string (txt a.o.note), .bool a.none, .slice D.a D.n D.c], .agg #[.int .i64 b.o.c, .int .i64 b.o.s, .int .i64 b.o.k, .string (txt b.o.acct), .string (txt b.o.peer), .int .i64 b.o.sum, .slice M.a M.n M.c, .int .i64 b.o.per, .int .i64 b.o.hold, .string (txt b.o.note), .bool b.none, .slice E.a E.n E.c]] w fun e w' => e = .returned (.bool (decide (a = b))) ∧ Mod none_ w w' := by
  have kO := Lib.hid (fun W (h : Mod none_ w W) => sameO_ok W a.o b.o L M (ha.od.mod0 h) (hb.od.mod0 h) hL hM)
  have kE := Lib.hid (fun W (h : Mod none_ w W) => eqP_ok W D.a E.a D.n E.n D.c E.c a.deps b.deps (ha.rd.mod0 h) (hb.rd.mod0 h) hD hE)
  have hm0 : ∀ o p, Mod none_ w ((w.alloc o).alloc p) := fun o p => ((Mod.refl none_ w).alloc o).alloc p
  have he := @en_eq a b
  replace ha := Lib.hid ha
  replace hb := Lib.hid hb
  replace he := Lib.hid he
  obtain ⟨ao, na, ad⟩ := a
  obtain ⟨bo, nb, bd⟩ := b
  dsimp only at kO kE he ⊢
  by_cases h1 : na = nb
  · have hd1 : (na == nb) = true := by simp [h1]
    by_cases h2 : ao = bo
    · rw [decide_eq_true h2] at kO
      have hr : (decide ((⟨ao, na, ad⟩ : En) = ⟨bo, nb, bd⟩)) = decide (ad = bd) := by rw [decide_eq_decide, he.out]; exact ⟨fun h => h.2.2, fun h => ⟨h1, h2, h⟩⟩
      rw [hr]
      replace h1 := Lib.hid h1
      replace h2 := Lib.hid h2
      replace hr := Lib.hid hr
      go_enter Tryz.func44, Tryz.ntmps44
      go_wp2_with fail
      with_reducible refine (kO.out _ (hm0 _ _)).mono ?_
      rintro e w1 ⟨rfl, hm1⟩
      dsimp only
      have x1 := (((Blk.new w _ _).alloc _).mod hm1 (fun h => h)).cell_ (i := 11) rfl
      have x2 := ((Blk.new (w.alloc _) _ _).mod hm1 (fun h => h)).cell_ (i := 11) rfl
      simp only [World.size_alloc] at x2
      have hm2 := (hm0 _ _).trans hm1
      have kE' := Lib.hid (kE.out _ hm2)
      replace hm1 := Lib.hid hm1
      go_wp2_with fail
      with_reducible refine kE'.out.mono ?_
      rintro e w2 ⟨rfl, q, hq⟩
      dsimp only
      have hm3 : Mod none_ w w2 := by rw [hq]; exact hm2.drewN _
      replace hm3 := Lib.hid hm3
      replace hq := Lib.hid hq
      go_wp2_with fail
      go_ret
      exact ⟨rfl, hm3.out⟩
    · rw [decide_eq_false h2] at kO
      have hr : (decide ((⟨ao, na, ad⟩ : En) = ⟨bo, nb, bd⟩)) = false := by rw [decide_eq_false_iff_not, he.out]; exact fun h => h2 h.2.1
      rw [hr]
      replace h1 := Lib.hid h1
      replace h2 := Lib.hid h2
      replace hr := Lib.hid hr
      go_enter Tryz.func44, Tryz.ntmps44
      go_wp2_with fail
      with_reducible refine (kO.out _ (hm0 _ _)).mono ?_
      rintro e w1 ⟨rfl, hm1⟩
      dsimp only
      have hm2 := Lib.hid ((hm0 _ _).trans hm1)
      replace hm1 := Lib.hid hm1
      go_wp2_with fail
      go_ret
      exact ⟨rfl, hm2.out⟩
  · have hd1 : (na == nb) = false := by simp [h1]
    have hr : (decide ((⟨ao, na, ad⟩ : En) = ⟨bo, nb, bd⟩)) = false := by rw [decide_eq_false_iff_not, he.out]; exact fun h => h1 h.1
    rw [hr]
    replace h1 := Lib.hid h1
    replace hr := Lib.hid hr
    go_enter Tryz.func44, Tryz.ntmps44
    go_wp2_with fail
    go_ret
    exact ⟨rfl, hm0 _ _⟩
end Go.Proofs.YtdekehhmjehicaaGreat
