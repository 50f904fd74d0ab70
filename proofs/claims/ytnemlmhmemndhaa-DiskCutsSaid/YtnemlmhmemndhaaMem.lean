/-
  Words for memory: 'Mod F w w'' (only the blocks in F, and new ones, may have changed), a slice that reads as a list of cells ('Rd'), a row of the call's own that may be appended to ('Ow'), and the laws of append on them. No condition.
-/
import Derived.WalkKit
import Derived.WalkSpells
import Derived.WalkLawsBesides
import Derived.Lib.Hide
import Derived.Deep.Draws
import Derived.Deep.AppendLies
import Derived.Maps.AppendAt
import Derived.BigQuiet
namespace Go.Proofs.Ytnemlmhmemndhaa
set_option linter.unusedVariables false
open Go.RowKit

/-- Only the blocks in F, and new ones, may have changed. -/
structure Mod (F : Nat → Prop) (w w' : World) : Prop where
  os : w'.os = w.os
  tape : w'.tape = w.tape
  output : w'.output = w.output
  size : w.heap.size ≤ w'.heap.size
  block : ∀ k, k < w.heap.size → ¬ F k → w'.heap[k]? = w.heap[k]?

def none_ : Nat → Prop := fun _ => False
def fp (A : Option Addr) : Nat → Prop := fun k => ∃ a, A = some a ∧ a.block = k
def Fresh (w : World) (A : Option Addr) : Prop := ∀ a, A = some a → w.heap.size ≤ a.block

section
variable {F G : Nat → Prop} {w w' w'' : World}
theorem Mod.refl (F : Nat → Prop) (w : World) : Mod F w w := ⟨rfl, rfl, rfl, Nat.le_refl _, fun _ _ _ => rfl⟩
theorem Mod.trans (h : Mod F w w') (k : Mod F w' w'') : Mod F w w'' :=
  ⟨k.os.trans h.os, k.tape.trans h.tape, k.output.trans h.output, Nat.le_trans h.size k.size, fun i hi hf => (k.block i (Nat.lt_of_lt_of_le hi h.size) hf).trans (h.block i hi hf)⟩
/-- The second step may also change what the first one has made. -/
theorem Mod.then (h : Mod F w w') (k : Mod G w' w'') (hs : ∀ i, i < w.heap.size → G i → F i) : Mod F w w'' :=
  ⟨k.os.trans h.os, k.tape.trans h.tape, k.output.trans h.output, Nat.le_trans h.size k.size,
    fun i hi hf => (k.block i (Nat.lt_of_lt_of_le hi h.size) (fun hg => hf (hs i hi hg))).trans (h.block i hi hf)⟩
theorem Mod.mono (h : Mod F w w') (hs : ∀ i, F i → G i) : Mod G w w' := ⟨h.os, h.tape, h.output, h.size, fun i hi hf => h.block i hi (fun hg => hf (hs i hg))⟩
theorem Mod.any (h : Mod none_ w w') (G : Nat → Prop) : Mod G w w' := h.mono fun _ hh => hh.elim
theorem Mod.drew (h : Mod F w w') : Mod F w w'.drew := ⟨h.os, h.tape, h.output, h.size, h.block⟩
theorem Mod.drewN (h : Mod F w w') (n : Nat) : Mod F w (w'.drewN n) := ⟨h.os, h.tape, h.output, h.size, h.block⟩
theorem Mod.alloc (h : Mod F w w') (o : Obj) : Mod F w (w'.alloc o) :=
  ⟨h.os, h.tape, h.output, Nat.le_trans h.size (by simp), fun i hi hf => (Below.heap_alloc w' o i (Nat.lt_of_lt_of_le hi h.size)).trans (h.block i hi hf)⟩
theorem Mod.setCell (h : Mod F w w') {p : Addr} (hp : F p.block ∨ w.heap.size ≤ p.block) (u : Value) : Mod F w (w'.setCell p u) :=
  ⟨h.os, h.tape, h.output, by simpa [World.setCell] using h.size, fun i hi hf => (Below.heap_setCell w' p u i (by
    rintro rfl
    rcases hp with hp | hp
    · exact hf hp
    · omega)).trans (h.block i hi hf)⟩
theorem Mod.below (h : Mod F w w') {B : Nat} (hB : B ≤ w.heap.size) (hF : ∀ k, F k → B ≤ k) : Below B w w' :=
  ⟨h.os, h.tape, h.output, h.size, fun k hk => h.block k (by omega) (fun hf => by have := hF k hf; omega)⟩
theorem Mod.below0 (h : Mod none_ w w') : Below w.heap.size w w' := h.below (Nat.le_refl _) fun _ hh => hh.elim
theorem Mod.of_below (h : Below w.heap.size w w') : Mod none_ w w' := ⟨h.os, h.tape, h.output, h.size, fun k hk _ => h.block k hk⟩
theorem Mod.cell (h : Mod F w w') {a : Addr} (hlt : a.block < w.heap.size) (hf : ¬ F a.block) : w'.cell? a = w.cell? a := World.cell?_of_block (w := w) (h.block a.block hlt hf)
theorem Mod.frozen (h : Mod F w w') {a : Addr} (hlt : a.block < w.heap.size) (hf : ¬ F a.block) : w'.frozen? a = w.frozen? a := World.frozen?_of_block (w := w) (h.block a.block hlt hf)
theorem Mod.cell_some (h : Mod F w w') {a : Addr} {v : Value} (hc : w.cell? a = some v) (hf : ¬ F a.block) : w'.cell? a = some v := (h.cell (World.block_lt_of_cell? w a hc) hf).trans hc
theorem Mod.of_grown {row : Option Nat} (h : w.grownBy w' row) : Mod (fun k => row = some k) w w' :=
  ⟨h.os, h.tape, h.output, h.size, fun k hk hn => h.block k hk (fun e => hn e.symm)⟩
end

/-- A block known whole. -/
def Blk (w : World) (g : Nat) (t : TypeId) (cs : Array Value) : Prop := w.heap[g]? = some (.cells cs t (0, 0))
section
variable {F : Nat → Prop} {w w' : World} {g : Nat} {t : TypeId} {cs : Array Value}
theorem Blk.lt (h : Blk w g t cs) : g < w.heap.size := by
  rcases Nat.lt_or_ge g w.heap.size with hlt | hge
  · exact hlt
  · unfold Blk at h; rw [Array.getElem?_eq_none hge] at h; cases h
theorem Blk.cell (h : Blk w g t cs) (i : Nat) : w.cell? ⟨g, i, none⟩ = cs[i]? := cell_of_row w g i cs t (0, 0) h
theorem Blk.cell_ {i : Nat} {v : Value} (h : Blk w g t cs) (hv : cs[i]? = some v) : w.cell? ⟨g, i, none⟩ = some v := (h.cell i).trans hv
theorem Blk.frozen (h : Blk w g t cs) (i : Nat) : w.frozen? ⟨g, i, none⟩ = false := by
  unfold Blk at h
  simp [World.frozen?, h]
theorem Blk.new (w : World) (t : TypeId) (cs : Array Value) : Blk (w.alloc (.cells cs t)) w.heap.size t cs := heap_alloc_new w _
theorem Blk.drew (h : Blk w g t cs) : Blk w.drew g t cs := h
theorem Blk.drewN (h : Blk w g t cs) (n : Nat) : Blk (w.drewN n) g t cs := h
theorem Blk.alloc (h : Blk w g t cs) (o : Obj) : Blk (w.alloc o) g t cs := (Below.heap_alloc w o g h.lt).trans h
theorem Blk.set_ (h : Blk w g t cs) (i : Nat) (u : Value) : Blk (w.setCell ⟨g, i, none⟩ u) g t (cs.setIfInBounds i u) := by
  unfold Blk at h ⊢
  simp [World.setCell, Array.getElem?_modify, h]
theorem Blk.far (h : Blk w g t cs) {p : Addr} (hp : g ≠ p.block) (u : Value) : Blk (w.setCell p u) g t cs := (Below.heap_setCell w p u g hp).trans h
theorem Blk.mod (h : Blk w g t cs) (hm : Mod F w w') (hg : ¬ F g) : Blk w' g t cs := (hm.block g h.lt hg).trans h
theorem Blk.ne_ {g' : Nat} {t' : TypeId} {cs' : Array Value} (h : Blk w g t cs) (h' : Blk w g' t' cs') (hne : t ≠ t') : g ≠ g' := by
  rintro rfl
  unfold Blk at h h'
  rw [h] at h'
  injection h' with h'
  injection h' with _ ht
  exact hne ht
end

theorem block_of_add (a : Addr) (n : Nat) : (a.add n).block = a.block := by unfold Addr.add; split <;> rfl
theorem add_of_add (a : Addr) (i j : Nat) : (a.add i).add j = a.add (i + j) := by
  unfold Addr.add
  by_cases hi : i = 0 <;> by_cases hj : j = 0 <;> simp [hi, hj, Nat.add_assoc]
theorem add_zero_ (a : Addr) : a.add 0 = a := rfl
theorem map_add_zero (A : Option Addr) : A.map (fun x => x.add 0) = A := by cases A <;> rfl
theorem add_lit (g j : Nat) : (⟨g, 0, none⟩ : Addr).add j = ⟨g, j, none⟩ := by unfold Addr.add; split <;> simp_all

/-- The slice '.slice A n _' of elements of 'size' cells holds the cells xs (read only). -/
def Rd (w : World) (size : Nat) (A : Option Addr) (n : Nat) (xs : List Value) : Prop :=
  xs.length = n * size ∧ (0 < n → ∃ ad, A = some ad ∧ ∀ j u, xs[j]? = some u → w.cell? (ad.add j) = some u)
section
variable {F : Nat → Prop} {w w' : World} {size n : Nat} {A : Option Addr} {xs : List Value}
theorem Rd.none_ : Rd w size A 0 [] := ⟨by simp, fun h => absurd h (by omega)⟩
theorem Rd.at_ {k : Nat} (h : Rd w 1 A n xs) (hk : k < n) : ∃ ad u, A = some ad ∧ xs[k]? = some u ∧ w.cell? (ad.add k) = some u := by
  obtain ⟨ad, e, hc⟩ := h.2 (by omega)
  have hl : k < xs.length := by have := h.1; omega
  exact ⟨ad, xs[k], e, List.getElem?_eq_getElem hl, hc k _ (List.getElem?_eq_getElem hl)⟩
theorem Rd.mod (h : Rd w size A n xs) (hm : Mod F w w') (hF : ∀ k, fp A k → ¬ F k) : Rd w' size A n xs :=
  ⟨h.1, fun hn => by
    obtain ⟨ad, e, hc⟩ := h.2 hn
    exact ⟨ad, e, fun j u hu => hm.cell_some (hc j u hu) (by rw [block_of_add]; exact hF _ ⟨ad, e, rfl⟩)⟩⟩
theorem Rd.mod0 (h : Rd w size A n xs) (hm : Mod Go.Proofs.Ytnemlmhmemndhaa.none_ w w') : Rd w' size A n xs := h.mod hm fun _ _ hh => hh
theorem Rd.drewN (h : Rd w size A n xs) (k : Nat) : Rd (w.drewN k) size A n xs := h
theorem Rd.alloc (h : Rd w size A n xs) (o : Obj) : Rd (w.alloc o) size A n xs := h.mod0 ((Mod.refl _ w).alloc o)
theorem Rd.drop_ (h : Rd w size A n xs) {k cap : Nat} (hk : k ≤ n) (hc : n ≤ cap) :
    Rd w size (if cap = k then A else A.map (·.add (k * size))) (n - k) (xs.drop (k * size)) := by
  refine ⟨by rw [List.length_drop, h.1, Nat.sub_mul], fun hn => ?_⟩
  obtain ⟨ad, rfl, hcell⟩ := h.2 (by omega)
  rw [if_neg (by omega)]
  refine ⟨ad.add (k * size), rfl, fun j u hu => ?_⟩
  rw [add_of_add]
  exact hcell _ u (by rw [← hu, List.getElem?_drop])
theorem Rd.take_ (h : Rd w size A n xs) {k : Nat} (hk : k ≤ n) : Rd w size A k (xs.take (k * size)) := by
  refine ⟨by rw [List.length_take, h.1]; exact Nat.min_eq_left (Nat.mul_le_mul_right _ hk), fun hn => ?_⟩
  obtain ⟨ad, rfl, hcell⟩ := h.2 (by omega)
  refine ⟨ad, rfl, fun j u hu => hcell j u ?_⟩
  rw [List.getElem?_take] at hu
  split at hu
  · exact hu
  · cases hu
/-- Where there is an element the address is a plain one. -/
theorem Rd.form (h : Rd w size A n xs) (hn : 0 < n) (hs : 0 < size) : ∃ b o, A = some ⟨b, o, none⟩ ∧ ∀ j u, xs[j]? = some u → w.cell? ⟨b, o + j, none⟩ = some u := by
  obtain ⟨ad, rfl, hc⟩ := h.2 hn
  have hl : 0 < xs.length := by rw [h.1]; exact Nat.mul_pos hn hs
  have h0 := hc 0 _ (List.getElem?_eq_getElem hl)
  rw [add_zero_] at h0
  obtain ⟨b, o, sp⟩ := ad
  cases sp with
  | some x => simp [World.cell?] at h0; split at h0 <;> simp at h0
  | none =>
    refine ⟨b, o, rfl, fun j u hu => ?_⟩
    have := hc j u hu
    have e : (⟨b, o, none⟩ : Addr).add j = ⟨b, o + j, none⟩ := by unfold Addr.add; split <;> simp_all
    rwa [e] at this
theorem Rd.lt (h : Rd w 1 A n xs) (hn : 0 < n) : ∀ k, fp A k → k < w.heap.size := by
  rintro k ⟨a, e, rfl⟩
  obtain ⟨ad, u, e', _, hc⟩ := h.at_ hn
  rw [e] at e'
  injection e' with e'
  subst e'
  exact World.block_lt_of_cell? w _ hc
end

theorem Rd.mod' {F : Nat → Prop} {w w' : World} {size n : Nat} {A : Option Addr} {xs : List Value} (h : Rd w size A n xs) (hm : Mod F w w') (hF : 0 < n → ∀ k, fp A k → ¬ F k) : Rd w' size A n xs :=
  ⟨h.1, fun hn => by
    obtain ⟨ad, e, hc⟩ := h.2 hn
    exact ⟨ad, e, fun j u hu => hm.cell_some (hc j u hu) (by rw [block_of_add]; exact hF hn _ ⟨ad, e, rfl⟩)⟩⟩

/-- A row of the call's own: it may be appended to and stored into. -/
def Ow (w : World) (e : TypeId) (size : Nat) (A : Option Addr) (n c : Nat) (xs : List Value) : Prop :=
  xs.length = n * size ∧ n ≤ c ∧ c ≤ maxLen ∧
    ((A = none ∧ n = 0 ∧ c = 0) ∨ ∃ g cur, A = some ⟨g, 0, none⟩ ∧ Blk w g e cur ∧ c * size ≤ cur.size ∧ cur.toList.take (n * size) = xs)
section
variable {F : Nat → Prop} {w w' : World} {e : TypeId} {size n c : Nat} {A : Option Addr} {xs : List Value}
theorem Ow.nil (w : World) (e : TypeId) (size : Nat) : Ow w e size none 0 0 [] := ⟨by simp, Nat.le_refl _, Nat.zero_le _, .inl ⟨rfl, rfl, rfl⟩⟩
theorem Ow.mod (h : Ow w e size A n c xs) (hm : Mod F w w') (hF : ∀ k, fp A k → ¬ F k) : Ow w' e size A n c xs := by
  obtain ⟨h1, h2, h3, h4⟩ := h
  refine ⟨h1, h2, h3, ?_⟩
  rcases h4 with h4 | ⟨g, cur, rfl, hb, h5⟩
  · exact .inl h4
  · exact .inr ⟨g, cur, rfl, hb.mod hm (hF g ⟨_, rfl, rfl⟩), h5⟩
theorem Ow.mod0 (h : Ow w e size A n c xs) (hm : Mod none_ w w') : Ow w' e size A n c xs := h.mod hm fun _ _ hh => hh
theorem Ow.rd (h : Ow w e size A n c xs) : Rd w size A n xs := by
  obtain ⟨h1, h2, _, h4⟩ := h
  refine ⟨h1, fun hn => ?_⟩
  rcases h4 with ⟨_, h5, _⟩ | ⟨g, cur, rfl, hb, h5, h6⟩
  · omega
  · refine ⟨_, rfl, fun j u hu => ?_⟩
    rw [add_lit, hb.cell]
    rw [← h6, List.getElem?_take] at hu
    split at hu
    · simpa using hu
    · cases hu
theorem Ow.lt (h : Ow w e size A n c xs) : ∀ k, fp A k → k < w.heap.size := by
  rintro k ⟨a, ha, rfl⟩
  rcases h.2.2.2 with ⟨h4, _⟩ | ⟨g, cur, h4, hb, _⟩
  · rw [h4] at ha; cases ha
  · rw [h4] at ha; cases ha; exact hb.lt
theorem Ow.ne_blk (h : Ow w e size A n c xs) {g : Nat} {t : TypeId} {cs : Array Value} (hb : Blk w g t cs) (hne : e ≠ t) : ¬ fp A g := by
  rintro ⟨a, ha, rfl⟩
  rcases h.2.2.2 with ⟨h4, _⟩ | ⟨g, cur, h4, hb', _⟩
  · rw [h4] at ha; cases ha
  · rw [h4] at ha; cases ha; exact hb'.ne_ hb hne rfl
theorem Ow.take_ (h : Ow w e size A n c xs) {k : Nat} (hk : k ≤ n) : Ow w e size A k c (xs.take (k * size)) := by
  obtain ⟨h1, h2, h3, h4⟩ := h
  refine ⟨by rw [List.length_take, h1]; exact Nat.min_eq_left (Nat.mul_le_mul_right _ hk), by omega, h3, ?_⟩
  rcases h4 with ⟨rfl, rfl, rfl⟩ | ⟨g, cur, rfl, hb, h5, h6⟩
  · exact .inl ⟨rfl, by omega, rfl⟩
  · refine .inr ⟨g, cur, rfl, hb, h5, ?_⟩
    rw [← h6, List.take_take, Nat.min_eq_left (Nat.mul_le_mul_right _ hk)]
theorem Ow.clip (h : Ow w e size A n c xs) {c' : Nat} (h1 : n ≤ c') (h2 : c' ≤ c) : Ow w e size A n c' xs := by
  obtain ⟨a1, a2, a3, a4⟩ := h
  refine ⟨a1, h1, Nat.le_trans h2 a3, ?_⟩
  rcases a4 with ⟨rfl, rfl, rfl⟩ | ⟨g, cur, rfl, hb, h5, h6⟩
  · exact .inl ⟨rfl, rfl, by omega⟩
  · exact .inr ⟨g, cur, rfl, hb, Nat.le_trans (Nat.mul_le_mul_right _ h2) h5, h6⟩
theorem Ow.new (w : World) (e : TypeId) (size n : Nat) (cs : Array Value) (hn : n ≤ maxLen) (hs : cs.size = n * size) : Ow (w.alloc (.cells cs e)) e size (some ⟨w.heap.size, 0, none⟩) n n cs.toList :=
  ⟨by simpa using hs, Nat.le_refl _, hn, .inr ⟨_, cs, rfl, Blk.new w e cs, by omega, by rw [← hs, ← Array.length_toList, List.take_length]⟩⟩
/-- Where there is an element the row is a block. -/
theorem Ow.form (h : Ow w e size A n c xs) (hn : 0 < n) : ∃ g cur, A = some ⟨g, 0, none⟩ ∧ Blk w g e cur ∧ c * size ≤ cur.size ∧ cur.toList.take (n * size) = xs := by
  rcases h.2.2.2 with ⟨_, h0, _⟩ | ⟨g, cur, h4, hb, h5⟩
  · omega
  · exact ⟨g, cur, h4, hb, h5⟩
theorem Ow.cell_ (h : Ow w e size A n c xs) {g : Nat} (hA : A = some ⟨g, 0, none⟩) (j : Nat) (hj : j < n * size) : w.cell? ⟨g, j, none⟩ = xs[j]? := by
  rcases h.2.2.2 with ⟨h4, _⟩ | ⟨g', cur, h4, hb, h5, h6⟩
  · rw [hA] at h4; cases h4
  · rw [hA] at h4; cases h4
    rw [hb.cell, ← h6, List.getElem?_take, if_pos hj]; simp
theorem Ow.free (h : Ow w e size A n c xs) {g : Nat} (hA : A = some ⟨g, 0, none⟩) (j : Nat) : w.frozen? ⟨g, j, none⟩ = false := by
  rcases h.2.2.2 with ⟨h4, _⟩ | ⟨g', cur, h4, hb, h5, h6⟩
  · rw [hA] at h4; cases h4
  · rw [hA] at h4; cases h4; exact hb.frozen j
/-- A store of one cell. -/
theorem Ow.set_ (h : Ow w e size A n c xs) {g : Nat} (hA : A = some ⟨g, 0, none⟩) (j : Nat) (u : Value) : Ow (w.setCell ⟨g, j, none⟩ u) e size A n c (xs.set j u) := by
  obtain ⟨h1, h2, h3, h4⟩ := h
  refine ⟨by simpa using h1, h2, h3, ?_⟩
  rcases h4 with ⟨h4, _⟩ | ⟨g', cur, h4, hb, h5, h6⟩
  · rw [hA] at h4; cases h4
  · rw [hA] at h4; cases h4
    refine .inr ⟨g, _, hA, hb.set_ j u, by simpa using h5, ?_⟩
    rw [← h6]
    apply List.ext_getElem?
    intro i
    simp only [List.getElem?_take, List.getElem?_set, Array.toList_setIfInBounds, List.length_take]
    by_cases hi : i < n * size
    · simp only [hi, if_true]
      by_cases hj : j = i
      · subst hj
        have hl : j < cur.size := by
          have := Nat.mul_le_mul_right size h2
          omega
        simp [hl]; omega
      · simp [hj]
    · simp only [hi, if_false]
      by_cases hj : j = i
      · subst hj; simp; omega
      · simp [hj]
end

section
variable {P : Program}
/-- append onto a row of the call's own, whatever the source (nil too). -/
theorem run_append_ow (w : World) (t ty e : TypeId) (i : TypeInfo) (z : Value) (size bytes : Nat) (ht : P.underlying t = some (.slice e)) (hi : P.info? e = some i) (hz : i.zero = some z)
    (hsize : i.size = size) (hby : i.bytes = bytes) (hzs : z.cells.size = size) (hsz : 0 < size)
    (A : Option Addr) (n c : Nat) (xs : List Value) (hown : Ow w e size A n c xs)
    (S : Option Addr) (m d : Nat) (news : List Value) (hr : Rd w size S m news) (h1 : ∀ u ∈ news, u.oneCell' = true)
    (hbytes : (n + m) * bytes ≤ 140737488355328) (h63 : n + m ≤ 9223372036854775807) :
    ∃ A' c' w', (Builtin.append_ #[t, t] ty #[.slice A n c, .slice S m d]).run P w = .ok (.slice A' (n + m) c') w' ∧ Ow w' e size A' (n + m) c' (xs ++ news) ∧ Mod (fp A) w w' ∧
      (A' = A ∨ A' = some ⟨w.heap.size, 0, none⟩) := by
  subst hsize
  subst hby
  have hlen : (xs ++ news).length = (n + m) * i.size := by rw [List.length_append, hown.1, hr.1, Nat.add_mul]
  have hmax : n + m ≤ maxLen := by simp only [maxLen]; omega
  obtain ⟨hx1, hnc, hcm, hcase⟩ := hown
  -- what a new row holds
  have grown : ∀ (old : Nat), old < n + m →
      Ow (w.drew.alloc (.cells (xs.toArray ++ news.toArray ++ Builtin.zeroCells z.cells (grownCap w (n + m) old e - (n + m))) e)) e i.size
        (some ⟨w.heap.size, 0, none⟩) (n + m) (grownCap w (n + m) old e) (xs ++ news) ∧
      Mod (fp A) w (w.drew.alloc (.cells (xs.toArray ++ news.toArray ++ Builtin.zeroCells z.cells (grownCap w (n + m) old e - (n + m))) e)) := by
    intro old ho
    have hge := grownCap_ge w (n + m) old e
    have hcm : grownCap w (n + m) old e ≤ maxLen := grownCap_le_maxLen w (n + m) old e hmax
    refine ⟨⟨hlen, hge, hcm, .inr ⟨w.heap.size, _, rfl, heap_alloc_new w.drew _, ?_, ?_⟩⟩, (Mod.refl _ w).drew.alloc _⟩
    · simp only [Array.size_append, List.size_toArray, size_zeroCells, hzs, hx1, hr.1, ← Nat.add_mul]
      exact Nat.mul_le_mul_right _ (by omega)
    · simp only [Array.toList_append, List.append_assoc]
      rw [← List.append_assoc, ← hlen]
      exact List.take_left
  by_cases hm : m = 0
  · subst hm
    have hn : news = [] := List.eq_nil_of_length_eq_zero (by simpa using hr.1)
    subst hn
    have hrun : (Builtin.append_ #[t, t] ty #[.slice A n c, .slice S 0 d]).run P w = .ok (.slice A n c) w := by
      have hf : ∀ S : Option Addr, (Builtin.firstCells i.size 0 (.slice S 0 d)).run P w = .ok #[] w := by
        intro S; cases S <;> simp [Builtin.firstCells, loadCells, loadCellsFrom]
      rcases hcase with ⟨rfl, rfl, rfl⟩ | ⟨g, cur, rfl, hb, h5, h6⟩
      · simp [Builtin.append_, run_underlying ht, sizeOf, typeInfo, hi, Builtin.lenOf, hf]
      · simp [Builtin.append_, run_underlying ht, sizeOf, typeInfo, hi, Builtin.lenOf, hf, hnc, storeCells]
    refine ⟨A, c, w, by simpa using hrun, ?_, Mod.refl _ w, .inl rfl⟩
    simp only [Nat.add_zero, List.append_nil]
    exact ⟨hx1, hnc, hcm, hcase⟩
  · obtain ⟨ad, rfl, hnews⟩ := hr.2 (by omega)
    rcases hcase with ⟨rfl, rfl, rfl⟩ | ⟨g, cur, rfl, hb, h5, h6⟩
    · have hx : xs = [] := List.eq_nil_of_length_eq_zero (by simpa using hx1)
      subst hx
      have hrun := run_append_nil (P := P) w t ty e i z ht hi hz ad m d news hr.1 hnews (by omega) (by omega) (by have hb := hbytes; simp only [Nat.zero_add] at hb; omega)
      have hgr := grown 0 (by omega)
      simp only [Nat.zero_add, List.nil_append, Array.empty_append] at hgr ⊢
      exact ⟨_, _, _, hrun, hgr.1, hgr.2, .inr rfl⟩
    · by_cases hroom : n + m ≤ c
      · have hfit : n * i.size + news.length ≤ cur.size := by
          rw [hr.1, ← Nat.add_mul]
          exact Nat.le_trans (Nat.mul_le_mul_right _ hroom) h5
        have hrun := run_append_room (P := P) w t ty e i ht hi g n c cur hb ad m d news hr.1 hnews h1 hroom hfit
        refine ⟨_, _, _, hrun, ⟨hlen, hroom, hcm, .inr ⟨g, _, rfl, setRow_heap w g cur _ e _ hb, ?_, ?_⟩⟩, ⟨rfl, rfl, rfl, by simp, fun k hk hf => setRow_other w g k _ (fun e => hf ⟨_, rfl, e.symm⟩)⟩, .inl rfl⟩
        · simp only [List.size_toArray, List.length_append, List.length_take, List.length_drop, Array.length_toList]
          omega
        · rw [h6, ← hlen]
          exact List.take_left
      · have holds : ∀ j u, xs[j]? = some u → w.cell? ((⟨g, 0, none⟩ : Addr).add j) = some u := by
          intro j u hu
          rw [add_lit, Blk.cell hb]
          rw [← h6, List.getElem?_take] at hu
          split at hu
          · simpa using hu
          · cases hu
        have hrun := run_append_grow (P := P) w t ty e i z ht hi hz ⟨g, 0, none⟩ n c xs hx1 holds ad m d news hr.1 hnews (by omega) (by omega) (growslice_fits (by omega) hbytes)
        have hgr := grown c (by omega)
        exact ⟨_, _, _, hrun, hgr.1, hgr.2, .inr rfl⟩

theorem wp_append_ow (w : World) {o : Oper} {a : Act} {K : Act → World → Prop} {Q : Exit → Act → World → Prop} (s x : Operand) (t : TypeId)
    (ho : o.op = .call { callee := .builtin .append, args := #[s, x], argTypes := #[t, t] })
    (e : TypeId) (i : TypeInfo) (z : Value) (size bytes : Nat) (ht : P.underlying t = some (.slice e)) (hi : P.info? e = some i) (hz : i.zero = some z)
    (hsize : i.size = size) (hby : i.bytes = bytes) (hzs : z.cells.size = size) (hsz : 0 < size)
    (A : Option Addr) (n c : Nat) (xs : List Value) (hs : a.eval s = .slice A n c) (hown : Ow w e size A n c xs)
    (S : Option Addr) (m d : Nat) (news : List Value) (hx : a.eval x = .slice S m d) (hr : Rd w size S m news) (h1 : ∀ u ∈ news, u.oneCell' = true)
    (hbytes : (n + m) * bytes ≤ 140737488355328) (h63 : n + m ≤ 9223372036854775807)
    (h : ∀ A' c' w', Ow w' e size A' (n + m) c' (xs ++ news) → Mod (fp A) w w' → (A' = A ∨ A' = some ⟨w.heap.size, 0, none⟩) → K (a.put o.dst (.slice A' (n + m) c')) w') : o.wp P a w K Q := by
  obtain ⟨A', c', w', hrun, h2, h3, h4⟩ := run_append_ow (P := P) w t o.type e i z size bytes ht hi hz hsize hby hzs hsz A n c xs hown S m d news hr h1 hbytes h63
  unfold Oper.wp execOp
  simp only [ho, resolve, invoke, builtin, Sem.run_bind, Sem.run_pure, Result.andThen_ok, List.map_toArray, List.map_cons, List.map_nil, hs, hx, hrun]
  exact h A' c' w' h2 h3 h4

/-- .. as an arm of the walk, behind 'at_builtin'. -/
theorem wpList_append_ow {w : World} {ops : Array Oper} {rest : List Oper} {o : Oper} {a : Act} {Q : Exit → Act → World → Prop} (hgd : o.guard = none) (s x : Operand) (t : TypeId)
    (ho : o.op = .call { callee := .builtin .append, args := #[s, x], argTypes := #[t, t] })
    (e : TypeId) (i : TypeInfo) (z : Value) (size bytes : Nat) (ht : P.underlying t = some (.slice e)) (hi : P.info? e = some i) (hz : i.zero = some z)
    (hsize : i.size = size) (hby : i.bytes = bytes) (hzs : z.cells.size = size) (hsz : 0 < size)
    (A : Option Addr) (n c : Nat) (xs : List Value) (hs : a.eval s = .slice A n c) (hown : Ow w e size A n c xs)
    (S : Option Addr) (m d : Nat) (news : List Value) (hx : a.eval x = .slice S m d) (hr : Rd w size S m news) (h1 : ∀ u ∈ news, u.oneCell' = true)
    (hbytes : (n + m) * bytes ≤ 140737488355328) (h63 : n + m ≤ 9223372036854775807)
    (h : ∀ A' c' w', Ow w' e size A' (n + m) c' (xs ++ news) → Mod (fp A) w w' → (A' = A ∨ A' = some ⟨w.heap.size, 0, none⟩) → wpList P ops Q rest (a.put o.dst (.slice A' (n + m) c')) w') : wpList P ops Q (o :: rest) a w :=
  wpList_plain hgd fun _ hK => wp_append_ow w s x t ho e i z size bytes ht hi hz hsize hby hzs hsz A n c xs hs hown S m d news hx hr h1 hbytes h63 fun A' c' w' h2 h3 h4 => hK _ _ (h A' c' w' h2 h3 h4)

/-- .. as a step of a region that draws. -/
theorem step_append_ow {w : World} {ops : Array Oper} {o : Oper} {a : Act} {K : Act → World → Prop} {Q : Exit → Act → World → Prop} {E : Prop} (hgd : o.guard = none) (s x : Operand) (t : TypeId)
    (ho : o.op = .call { callee := .builtin .append, args := #[s, x], argTypes := #[t, t] })
    (e : TypeId) (i : TypeInfo) (z : Value) (size bytes : Nat) (ht : P.underlying t = some (.slice e)) (hi : P.info? e = some i) (hz : i.zero = some z)
    (hsize : i.size = size) (hby : i.bytes = bytes) (hzs : z.cells.size = size) (hsz : 0 < size)
    (A : Option Addr) (n c : Nat) (xs : List Value) (hs : a.eval s = .slice A n c) (hown : Ow w e size A n c xs)
    (S : Option Addr) (m d : Nat) (news : List Value) (hx : a.eval x = .slice S m d) (hr : Rd w size S m news) (h1 : ∀ u ∈ news, u.oneCell' = true)
    (hbytes : (n + m) * bytes ≤ 140737488355328) (h63 : n + m ≤ 9223372036854775807)
    (h : ∀ A' c' w', Ow w' e size A' (n + m) c' (xs ++ news) → Mod (fp A) w w' → (A' = A ∨ A' = some ⟨w.heap.size, 0, none⟩) → K (a.put o.dst (.slice A' (n + m) c')) w') :
    if Region.wanted o (yielded ops a.tmps) = true then Oper.wp P o a w K Q else E := by
  have hw : Region.wanted o (yielded ops a.tmps) = true := by simp [Region.wanted, hgd]
  rw [if_pos hw]
  exact wp_append_ow w s x t ho e i z size bytes ht hi hz hsize hby hzs hsz A n c xs hs hown S m d news hx hr h1 hbytes h63 h
end

/- BYTES. -/
def bv (b : UInt8) : Value := .int .u8 (b.toNat : Int)
def bvs (l : List UInt8) : List Value := l.map bv
theorem bvs_length (l : List UInt8) : (bvs l).length = l.length := by simp [bvs]
theorem bvs_append (a b : List UInt8) : bvs (a ++ b) = bvs a ++ bvs b := by simp [bvs]
theorem bvs_take (a : List UInt8) (k : Nat) : bvs (a.take k) = (bvs a).take k := by simp [bvs, List.map_take]
theorem bvs_drop (a : List UInt8) (k : Nat) : bvs (a.drop k) = (bvs a).drop k := by simp [bvs, List.map_drop]
theorem bvs_one (l : List UInt8) : ∀ u ∈ bvs l, u.oneCell' = true := by
  intro u hu
  simp only [bvs, List.mem_map] at hu
  obtain ⟨b, _, rfl⟩ := hu
  rfl
theorem bvs_get {l : List UInt8} {k : Nat} (h : k < l.length) : (bvs l)[k]? = some (.int .u8 (l[k].toNat : Int)) := by simp [bvs, bv, h]
theorem bvs_set (l : List UInt8) (k : Nat) (b : UInt8) : bvs (l.set k b) = (bvs l).set k (bv b) := by simp [bvs, List.map_set]
def ivs (l : List Int) : List Value := l.map (.int .i64 ·)
theorem ivs_length (l : List Int) : (ivs l).length = l.length := by simp [ivs]
theorem ivs_append (a b : List Int) : ivs (a ++ b) = ivs a ++ ivs b := by simp [ivs]
theorem ivs_one (l : List Int) : ∀ u ∈ ivs l, u.oneCell' = true := by
  intro u hu
  simp only [ivs, List.mem_map] at hu
  obtain ⟨b, _, rfl⟩ := hu
  rfl
theorem ivs_get {l : List Int} {k : Nat} (h : k < l.length) : (ivs l)[k]? = some (.int .i64 l[k]) := by simp [ivs, h]

/-- Read-only bytes; bytes of the call's own. -/
def RdB (w : World) (A : Option Addr) (n : Nat) (l : List UInt8) : Prop := Rd w 1 A n (bvs l)
def OwB (w : World) (e : TypeId) (A : Option Addr) (n c : Nat) (l : List UInt8) : Prop := Ow w e 1 A n c (bvs l)
theorem RdB.len {w : World} {A : Option Addr} {n : Nat} {l : List UInt8} (h : RdB w A n l) : l.length = n := by have := h.1; rw [bvs_length] at this; omega
theorem OwB.len {w : World} {e : TypeId} {A : Option Addr} {n c : Nat} {l : List UInt8} (h : OwB w e A n c l) : l.length = n := by have := h.1; rw [bvs_length] at this; omega

/-- The text of bytes. -/
def txt (l : List UInt8) : ByteArray := ⟨l.toArray⟩
@[simp, go_sem] theorem txt_toList (l : List UInt8) : (txt l).toList = l := ByteArray.toList_mk l

/-- 'string(b)'. -/
theorem run_string_of_bytes {P : Program} (w : World) (src dst e : TypeId) (hs : P.underlying src = some (.slice e)) (he : P.underlying e = some (.int .u8)) (hd : P.underlying dst = some .string)
    (A : Option Addr) (n c : Nat) (l : List UInt8) (h : RdB w A n l) : (convert src dst (.slice A n c)).run P w = .ok (.string (txt l)) w := by
  rw [run_convert_bytes_string w src dst e _ n c hs he hd]
  rcases A with _ | ad
  · have hl : l = [] := by
      rcases Nat.eq_zero_or_pos n with h0 | h0
      · exact List.eq_nil_of_length_eq_zero (by rw [h.len, h0])
      · obtain ⟨ad, h, _⟩ := h.2 h0; cases h
    subst hl
    simp [Conv.bytesToString]; rfl
  · have hcells : ∀ j u, (bvs l)[j]? = some u → w.cell? (ad.add j) = some u := by
      intro j u hu
      rcases Nat.eq_zero_or_pos n with h0 | h0
      · have : l = [] := List.eq_nil_of_length_eq_zero (by rw [h.len, h0])
        subst this; simp [bvs] at hu
      · obtain ⟨ad', h', hc⟩ := h.2 h0
        injection h' with h'
        subst h'
        exact hc j u hu
    have hl : (loadCells ad n).run P w = .ok ((l.map fun b => (b.toNat : Int)).map (Value.int .u8)).toArray w := by
      have := run_loadCells_list (P := P) w ad (bvs l) hcells
      rw [bvs_length, h.len] at this
      rw [this]
      simp [bvs, bv, Function.comp_def]
    rw [run_bytesToString w ad n c _ hl, foldl_push_bytes]
    simp [txt, ByteArray.empty, ByteArray.emptyWithCapacity, Function.comp_def]
    rfl
end Go.Proofs.Ytnemlmhmemndhaa
