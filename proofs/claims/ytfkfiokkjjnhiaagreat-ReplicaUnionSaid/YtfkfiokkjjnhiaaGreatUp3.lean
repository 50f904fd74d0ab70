import Derived.Test.YtfkfiokkjjnhiaaGreatUp1
import Derived.Test.YtfkfiokkjjnhiaaGreatUp2
import Derived.Maps.OwnSet
import Derived.Maps.RangeWalk
import Derived.WideKeyPair
import Derived.DeepKeys4
set_option linter.unusedVariables false
set_option linter.unusedSimpArgs false
set_option maxHeartbeats 16000000
namespace Go.Proofs.YtfkfiokkjjnhiaaGreat
open Go.RowKit
open Go.Maps (Keyed)
def isVal (i : Is) : Value := .agg #[.int .i64 i.r, .int .i64 i.n]
def inI (i : Is) : Prop := (Lit.int .i64 i.r).wf = true ∧ (Lit.int .i64 i.n).wf = true
def klI (i : Is) : Lit := .string (keyBytes [.int .i64 i.r, .int .i64 i.n])
theorem instKeyed : Keyed Tryz.prog 27 := Keyed.of_law (deep_law_laid (by kernel_rfl) (m := 2) (by omega) (by decide +kernel) (by kernel_rfl) (by kernel_rfl))
theorem types_pos : ∃ N, Tryz.prog.types.size = N + 1 := ⟨Tryz.prog.types.size - 1, (Nat.sub_add_cancel (by decide +kernel)).symm⟩
theorem inst_cells : Tryz.prog.cellsOf 27 = 2 := by kernel_rfl
theorem int_cells : Tryz.prog.cellsOf 3 = 1 := by kernel_rfl
theorem inst_lits (N : Nat) (a b : Value) : Tryz.prog.keyLits (N + 1 + 1) 27 [a, b] = (match Tryz.prog.keyLits (N + 1) 3 [a], Tryz.prog.keyLits (N + 1) 3 [b] with | some x, some y => some (x ++ y) | _, _ => none) := by
 conv => lhs; unfold Program.keyLits
 simp only [Tryz.underlying27]
 simp [inst_cells, int_cells]
 cases Tryz.prog.keyLits (N + 1) 3 [a] with
 | none => rfl
 | some x =>
  cases Tryz.prog.keyLits (N + 1) 3 [b] with
  | none => rfl
  | some y => simp
theorem int_lits (N : Nat) (a : Value) : Tryz.prog.keyLits (N + 1) 3 [a] = (match a with | .int q n => if q = .i64 ∧ (Lit.int .i64 n).wf = true then some [.int .i64 n] else none | _ => none) := by
 conv => lhs; unfold Program.keyLits
 simp only [Tryz.underlying3]
 cases a <;> rfl
set_option maxRecDepth 100000
theorem klI_of {i : Is} (h : inI i) : keyOf Tryz.prog 27 (isVal i) = some (klI i) := by
 have hkt : Tryz.prog.keyType 27 = true := by kernel_rfl
 unfold keyOf isVal klI
 rw [Tryz.underlying27]
 simp only
 rw [if_pos (by simp [hkt, Value.formed, Tryz.underlying27, inst_cells])]
 obtain ⟨N, hN⟩ := types_pos
 rw [hN]
 show (Tryz.prog.keyLits (N + 1 + 1) 27 [.int .i64 i.r, .int .i64 i.n]).map _ = _
 rw [inst_lits, int_lits, int_lits]
 simp only [h.1, h.2, and_self, if_true]
 rfl
theorem klI_inv {v : Value} {l : Lit} (h : keyOf Tryz.prog 27 v = some l) : ∃ i, v = isVal i ∧ inI i ∧ l = klI i := by
 unfold keyOf at h
 rw [Tryz.underlying27] at h
 simp only at h
 split at h
 ·rename_i hc
  simp only [Bool.and_eq_true] at hc
  obtain ⟨N, hN⟩ := types_pos
  rw [hN] at h
  have hf := hc.2
  unfold Value.formed at hf
  cases v with
  | agg cs =>
   simp only [Tryz.underlying27, inst_cells, beq_iff_eq] at hf
   obtain ⟨a, b, hab⟩ : ∃ a b, cs = #[a, b] := by
    match cs, hf with
    | ⟨[a, b]⟩, _ => exact ⟨a, b, rfl⟩
   subst hab
   change (Tryz.prog.keyLits (N + 1 + 1) 27 [a, b]).map _ = _ at h
   rw [inst_lits, int_lits, int_lits] at h
   cases a <;> first | (simp at h; done) | skip
   cases b <;> first | (simp at h; done) | skip
   rename_i q x q' y
   by_cases h1 : q = .i64 ∧ (Lit.int .i64 x).wf = true
   ·by_cases h2 : q' = .i64 ∧ (Lit.int .i64 y).wf = true
    ·obtain ⟨rfl, w1⟩ := h1
     obtain ⟨rfl, w2⟩ := h2
     simp only [w1, w2, and_self, if_true] at h
     exact ⟨⟨x, y⟩, rfl, ⟨w1, w2⟩, by simpa [klI] using h.symm⟩
    ·simp only [h2, if_false] at h
     split at h <;> first | (simp at h; done) | (rename_i he; cases he)
   ·simp only [h1, if_false] at h
    simp at h
  | _ => simp [Tryz.underlying27] at hf
 ·cases h
theorem isVal_inj {i j : Is} (h : isVal i = isVal j) : i = j := by
 obtain ⟨a, b⟩ := i
 obtain ⟨c, d⟩ := j
 simp [isVal] at h
 rw [h.1, h.2]
theorem klI_inj {i j : Is} (hi : inI i) (hj : inI j) (h : klI i = klI j) : i = j := by
 have h1 := klI_of hi
 have h2 := klI_of hj
 rw [← h] at h2
 exact isVal_inj (instKeyed.inj h1 h2)
theorem klI_key (i : Is) : WideAt.IsKeyLit (klI i) := trivial
abbrev InstV := Is × Value
def findI (L : List InstV) (i : Is) : Option Value := (L.find? (fun p => p.1 == i)).map (·.2)
def putI' (i : Is) (v : Value) (L : List InstV) : List InstV := (i, v) :: L.filter fun p => !(p.1 == i)
def dropI (i : Is) (L : List InstV) : List InstV := L.filter fun p => !(p.1 == i)
structure RepI (D : DataW Value) (L : List InstV) : Prop where
 tidy : Maps.Tidy D
 nodup : L.Pairwise fun p q => p.1 ≠ q.1
 wf : ∀ p ∈ L, inI p.1
 size : Maps.size D = L.length
 at_ : ∀ i, inI i → ∀ z, D.atKey (klI i) (.held z) = .held ((findI L i).getD z)
 has : ∀ i, inI i → Maps.has D (klI i) = (findI L i).isSome
theorem findI_nil (i : Is) : findI [] i = none := rfl
theorem findI_put_same (L : List InstV) (i : Is) (v : Value) : findI (putI' i v L) i = some v := by simp [findI, putI']
theorem findI_drop_same (L : List InstV) (i : Is) : findI (dropI i L) i = none := by
 unfold findI dropI
 rw [List.find?_filter]
 rw [Option.map_eq_none_iff, List.find?_eq_none]
 intro x _
 cases (x.1 == i) <;> simp
theorem findI_drop_other (L : List InstV) {i j : Is} (h : j ≠ i) : findI (dropI i L) j = findI L j := by
 unfold findI dropI
 rw [List.find?_filter]
 congr 2
 funext a
 by_cases hj : a.1 = j
 ·have h1 : (a.1 == i) = false := by simp [hj, h]
  have h2 : (a.1 == j) = true := by simp [hj]
  rw [h1, h2]; rfl
 ·have h2 : (a.1 == j) = false := by simp [hj]
  rw [h2]; simp
theorem findI_put_other (L : List InstV) {i j : Is} (v : Value) (h : j ≠ i) : findI (putI' i v L) j = findI L j := by
 have : findI (putI' i v L) j = findI (dropI i L) j := by
  unfold findI putI' dropI
  rw [List.find?_cons_of_neg (by simpa using fun e => h e.symm)]
 rw [this, findI_drop_other L h]
theorem findI_mem {L : List InstV} {i : Is} {v : Value} (h : findI L i = some v) : (i, v) ∈ L := by
 unfold findI at h
 cases hf : L.find? (fun p => p.1 == i) with
 | none => rw [hf] at h; cases h
 | some p =>
  rw [hf] at h
  simp only [Option.map_some, Option.some.injEq] at h
  have h1 := List.mem_of_find?_eq_some hf
  have h2 := List.find?_some hf
  simp only [beq_iff_eq] at h2
  obtain ⟨a, b⟩ := p
  simp only at h h2
  subst h h2
  exact h1
theorem findI_of_mem {L : List InstV} (hn : L.Pairwise fun p q => p.1 ≠ q.1) {i : Is} {v : Value} (h : (i, v) ∈ L) : findI L i = some v := by
 induction L with
 | nil => cases h
 | cons p L ih =>
  obtain ⟨h1, h2⟩ := List.pairwise_cons.1 hn
  unfold findI
  rcases List.mem_cons.1 h with h | h
  ·subst h; simp
  ·rw [List.find?_cons_of_neg (by simpa using h1 _ h)]
   exact ih h2 h
theorem findI_none {L : List InstV} {i : Is} (h : findI L i = none) : ∀ p ∈ L, p.1 ≠ i := by
 intro p hp he
 unfold findI at h
 rw [Option.map_eq_none_iff, List.find?_eq_none] at h
 exact h p hp (by simp [he])
theorem drop_none {L : List InstV} {i : Is} (h : findI L i = none) : dropI i L = L := by
 unfold dropI
 rw [List.filter_eq_self]
 intro p hp
 have := findI_none h p hp
 simp [this]
theorem drop_some {L : List InstV} (hn : L.Pairwise fun p q => p.1 ≠ q.1) {i : Is} {v : Value} (h : findI L i = some v) : (dropI i L).length + 1 = L.length := by
 induction L with
 | nil => cases h
 | cons p L ih =>
  obtain ⟨h1, h2⟩ := List.pairwise_cons.1 hn
  by_cases hp : p.1 = i
  ·have e : dropI i (p :: L) = L := by
    unfold dropI
    rw [List.filter_cons_of_neg (by simp [hp]), List.filter_eq_self]
    intro q hq
    have := h1 q hq
    rw [hp] at this
    simp [Ne.symm this]
   rw [e]; rfl
  ·have e : dropI i (p :: L) = p :: dropI i L := by
    unfold dropI
    rw [List.filter_cons_of_pos (by simp [hp])]
   have hf : findI L i = some v := by
    unfold findI at h ⊢
    rw [List.find?_cons_of_neg (by simpa using hp)] at h
    exact h
   rw [e, List.length_cons, List.length_cons, ih h2 hf]
theorem RepI.nil : RepI (.map []) [] := ⟨Maps.tidy_empty, List.Pairwise.nil, fun p hp => (List.not_mem_nil hp).elim, rfl, fun i hi z => rfl, fun i hi => rfl⟩
theorem RepI.put {D : DataW Value} {L : List InstV} (h : RepI D L) {i : Is} (hi : inI i) (v : Value) : RepI (D.put (klI i) (.held v)) (putI' i v L) := by
 have hne : ∀ {j : Is}, inI j → j ≠ i → klI j ≠ klI i := fun hj h1 h2 => h1 (klI_inj hj hi h2)
 refine ⟨h.tidy.put (klI_key i) _, ?_, fun p hp => ?_, ?_, fun j hj z => ?_, fun j hj => ?_⟩
 ·refine List.pairwise_cons.2 ⟨fun q hq => ?_, h.nodup.filter _⟩
  have := (List.mem_filter.1 hq).2
  simp only [Bool.not_eq_true', beq_eq_false_iff_ne, ne_eq] at this
  exact fun e => this e.symm
 ·rcases List.mem_cons.1 hp with rfl | hp
  ·exact hi
  ·exact h.wf p (List.mem_filter.1 hp).1
 ·rw [Maps.size_put h.tidy, h.has i hi, h.size]
  show _ = (dropI i L).length + 1
  cases hf : findI L i with
  | none => rw [drop_none hf]; simp
  | some v' => have := drop_some h.nodup hf; simp; omega
 ·by_cases e : j = i
  ·subst e
   rw [Maps.atKey_put_same h.tidy.isMap (klI_key j), findI_put_same]; rfl
  ·rw [Maps.atKey_put_other (hne hj e), h.at_ j hj, findI_put_other L v e]
 ·by_cases e : j = i
  ·subst e
   rw [Maps.has_put_same h.tidy.isMap (klI_key j), findI_put_same]; rfl
  ·rw [Maps.has_put_other (hne hj e), h.has j hj, findI_put_other L v e]
theorem RepI.del {D : DataW Value} {L : List InstV} (h : RepI D L) {i : Is} (hi : inI i) : RepI (D.del (klI i)) (dropI i L) := by
 have hne : ∀ {j : Is}, inI j → j ≠ i → klI j ≠ klI i := fun hj h1 h2 => h1 (klI_inj hj hi h2)
 refine ⟨h.tidy.del _, h.nodup.filter _, fun p hp => h.wf p (List.mem_filter.1 hp).1, ?_, fun j hj z => ?_, fun j hj => ?_⟩
 ·have h1 := Maps.size_del (k := klI i) h.tidy
  rw [h.has i hi, h.size] at h1
  cases hf : findI L i with
  | none => rw [drop_none hf]; rw [hf] at h1; simpa using h1
  | some v' => have := drop_some h.nodup hf; rw [hf] at h1; simp at h1; omega
 ·by_cases e : j = i
  ·subst e
   rw [Maps.atKey_del_same, findI_drop_same]; rfl
  ·rw [Maps.atKey_del_other (hne hj e), h.at_ j hj, findI_drop_other L e]
 ·by_cases e : j = i
  ·subst e
   rw [Maps.has_del_same, findI_drop_same]; rfl
  ·rw [Maps.has_del_other (hne hj e), h.has j hj, findI_drop_other L e]
def MapK (w : World) (b : Nat) (L : List InstV) : Prop := ∃ n D, n < maxLen ∧ w.ownsMap Tryz.prog 27 VR b n D ∧ RepI D L
section
variable {F : Nat → Prop} {w w' : World} {b : Nat} {L : List InstV}
theorem MapK.lt (h : MapK w b L) : b < w.heap.size := by obtain ⟨n, D, _, h, _⟩ := h; exact h.lt
theorem MapK.nodup (h : MapK w b L) : L.Pairwise fun p q => p.1 ≠ q.1 := by obtain ⟨n, D, _, _, h⟩ := h; exact h.nodup
theorem MapK.wf (h : MapK w b L) : ∀ p ∈ L, inI p.1 := by obtain ⟨n, D, _, _, h⟩ := h; exact h.wf
theorem MapK.mod (h : MapK w b L) (hm : Mod F w w') (hb : ¬ F b) : MapK w' b L := by
 obtain ⟨n, D, hn, ⟨es, clock, h1, h2⟩, h3⟩ := h
 exact ⟨n, D, hn, ⟨es, clock, (hm.block b (Array.getElem?_eq_some_iff.1 h1).1 hb).trans h1, h2⟩, h3⟩
theorem MapK.alloc (h : MapK w b L) (o : Obj) : MapK (w.alloc o) b L := by obtain ⟨n, D, hn, h1, h3⟩ := h; exact ⟨n, D, hn, h1.alloc o, h3⟩
theorem MapK.made (w : World) : MapK (w.alloc (.map #[] 0)) w.heap.size [] := ⟨0, _, by decide, World.ownsMap_made _ _ _ _, RepI.nil⟩
theorem MapK.tight (h : MapK w b L) : ∃ D, w.ownsMap Tryz.prog 27 VR b L.length D ∧ RepI D L := by
 obtain ⟨n, D, hn, ⟨es, clock, h1, h2, h3, h4⟩, h5⟩ := h
 refine ⟨D, ⟨es, clock, h1, h2, ?_, h4⟩, h5⟩
 have := congrArg Maps.size h4
 rw [h5.size] at this
 rw [this]; simp [Maps.size, length_sorted]
theorem MapK.store_run (h : MapK w b L) {t e : TypeId} (ht : Tryz.prog.underlying t = some (.map 27 e)) (hroom : L.length + 1 < maxLen) {i : Is} (hi : inI i) (val : Value) :
  ∃ w', (Instr.mapUpdate t (.map (some b)) (isVal i) val).run Tryz.prog w = .ok () w' ∧ MapK w' b (putI' i val L) ∧ Mod (· = b) w w' ∧ w'.heap.size = w.heap.size := by
 obtain ⟨D, h1, h2⟩ := h.tight
 obtain ⟨w', hrun, h3, h4⟩ := h1.store instKeyed ht (by omega) (klI_of hi) (d := .held val) (ps := []) (show VR val = some (.held val, []) from rfl)
 refine ⟨w', hrun, ⟨_, _, hroom, h3, h2.put hi val⟩, (Mod.of_grown h4.grown).mono fun i hi => by cases hi; rfl, ?_⟩
 obtain ⟨es, c, es', c', _, rfl⟩ := h4
 simp [ChangeMaps.setBlock]
theorem MapK.look_run (h : MapK w b L) {t e : TypeId} (ht : Tryz.prog.underlying t = some (.map 27 e)) {z : Value} (hz : (zeroValue e).run Tryz.prog w = .ok z w) {i : Is} (hi : inI i) :
  (Instr.lookup t (.map (some b)) (isVal i) true).run Tryz.prog w = .ok (.tuple #[(findI L i).getD z, .bool (findI L i).isSome]) w := by
 obtain ⟨D, h1, h2⟩ := h.tight
 obtain ⟨v, ps, hrun, hv⟩ := h1.look_ok instKeyed ht hz (zd := .held z) (zp := []) rfl (klI_of hi)
 rw [h2.at_ i hi] at hv
 have : v = (findI L i).getD z := by simp [VR] at hv; exact hv.1
 rw [this, h2.has i hi] at hrun
 exact hrun
theorem MapK.len_run (h : MapK w b L) {t e : TypeId} (ht : Tryz.prog.underlying t = some (.map 27 e)) (ty : TypeId) : (Builtin.len_ #[t] ty #[.map (some b)]).run Tryz.prog w = .ok (.int .i64 (L.length : Nat)) w := by
 obtain ⟨D, h1, h2⟩ := h.tight
 have := h1.len ht ty
 rw [h2.size] at this
 exact this
theorem MapK.drop_run (h : MapK w b L) {t e : TypeId} (ht : Tryz.prog.underlying t = some (.map 27 e)) {i : Is} (hi : inI i) (ty : TypeId) :
  ∃ w', (Builtin.delete_ #[t, 27] ty #[.map (some b), isVal i]).run Tryz.prog w = .ok (.tuple #[]) w' ∧ MapK w' b (dropI i L) ∧ Mod (· = b) w w' ∧ w'.heap.size = w.heap.size := by
 obtain ⟨n, D, hn, h1, h2⟩ := h
 obtain ⟨w', hrun, h3, h4⟩ := h1.drop instKeyed ht (klI_of hi) ty
 refine ⟨w', hrun, ⟨n, _, hn, h3, h2.del hi⟩, (Mod.of_grown h4.grown).mono fun i hi => by cases hi; rfl, ?_⟩
 obtain ⟨es, c, es', c', _, rfl⟩ := h4
 simp [ChangeMaps.setBlock]
end
def ItK (w : World) (b r : Nat) (L R : List InstV) : Prop := ∃ n D left cnt, w.ranges Tryz.prog 27 VR b r n D left cnt ∧ RepI D L ∧ R = L.filter fun p => left (klI p.1)
theorem ItK.mod {F : Nat → Prop} {w w' : World} {b r : Nat} {L R : List InstV} (h : ItK w b r L R) (hm : Mod F w w') (hb : ¬ F b) (hr : ¬ F r) : ItK w' b r L R := by
 obtain ⟨n, D, left, cnt, ⟨es, clock, since, seen, c0, h1, h2, h3, h4, h5, h6⟩, h7, h8⟩ := h
 have lb : b < w.heap.size := (Array.getElem?_eq_some_iff.1 h1).1
 have lr : r < w.heap.size := (Array.getElem?_eq_some_iff.1 h5).1
 exact ⟨n, D, left, cnt, ⟨es, clock, since, seen, c0, (hm.block b lb hb).trans h1, h2, h3, h4, (hm.block r lr hr).trans h5, h6⟩, h7, h8⟩
theorem ItK.next {w : World} {b r : Nat} {L R : List InstV} (h : ItK w b r L R) (ty : TypeId) :
  (R = [] ∧ (Instr.next (.pointer (some ⟨r, 0, none⟩)) false ty).run Tryz.prog w = .ok (.tuple #[.bool false]) w) ∨
  ∃ (p : InstV) (w' : World), p ∈ R ∧ p ∈ L ∧ ItK w' b r L (dropI p.1 R) ∧ ((dropI p.1 R).length < R.length ∧ w'.rangeLeft b r < w.rangeLeft b r) ∧ Mod (· = r) w w' ∧ w'.heap.size = w.heap.size ∧
   (Instr.next (.pointer (some ⟨r, 0, none⟩)) false ty).run Tryz.prog w = .ok (.tuple #[.bool true, isVal p.1, p.2]) w' ∧
   (Instr.entry (.pointer (some ⟨r, 0, none⟩))).run Tryz.prog w' = .ok (.tuple #[isVal p.1, p.2]) w' := by
 obtain ⟨n, D, left, cnt, hr, h2, h3⟩ := h
 rcases hr.next instKeyed ty with ⟨h0, hl, hrun⟩ | ⟨key, v, kl, y, w', cnt', hkey, hlk, hv, hat, hrun, hrg, hlt, hgr, hsz, hen⟩
 ·refine .inl ⟨?_, hrun⟩
  rw [h3, List.filter_eq_nil_iff]
  intro p _
  rw [hl]; simp
 ·right
  obtain ⟨i, rfl, hi, rfl⟩ := klI_inv hkey
  have hy : y = (.held v, []) := by unfold VR at hv; exact (Option.some.inj hv).symm
  subst hy
  have hfs : (findI L i).isSome = true := by
   rw [← h2.has i hi]
   cases hh : Maps.has D (klI i) with
   | true => rfl
   | false =>
    have := Maps.atKey_of_not_has hh (.held (.bool true))
    have h5 := Maps.atKey_of_not_has hh (.held (.bool false))
    rw [hat] at this h5
    rw [this] at h5
    cases h5
  obtain ⟨v', hf⟩ := Option.isSome_iff_exists.1 hfs
  have hvv : v' = v := by
   have h5 := h2.at_ i hi v
   rw [hat, hf] at h5
   simpa using h5.symm
  subst hvv
  have hm := findI_mem hf
  have hmR : (i, v') ∈ R := by rw [h3]; exact List.mem_filter.2 ⟨hm, hlk⟩
  have hR' : dropI i R = L.filter fun p => (left (klI p.1) && !(klI p.1).sameKey (klI i)) := by
   rw [h3]
   unfold dropI
   rw [List.filter_filter]
   refine List.filter_congr fun p hp => ?_
   by_cases e : p.1 = i
   ·rw [e]
    have : (klI i).sameKey (klI i) = true := WideAt.sameKey_self (klI_key i)
    simp [this]
   ·have : (klI p.1).sameKey (klI i) = false := Maps.sameKey_ne (fun h => e (klI_inj (h2.wf p hp) hi h))
    have e2 : (p.1 == i) = false := by simpa using e
    rw [this, e2]
    simp
  have hRn : R.Pairwise fun p q => p.1 ≠ q.1 := by rw [h3]; exact h2.nodup.filter _
  refine ⟨(i, v'), w', hmR, hm, ⟨n, D, _, cnt', hrg, h2, hR'⟩, ?_, (Mod.of_grown hgr).mono fun k hk => by cases hk; rfl, hsz, hrun, hen⟩
  have := drop_some hRn (findI_of_mem hRn hmR)
  refine ⟨?_, by rw [hrg.left_eq, hr.left_eq]; exact hlt⟩
  show (dropI i R).length < R.length
  omega
end Go.Proofs.YtfkfiokkjjnhiaaGreat
namespace Go.Proofs.YtfkfiokkjjnhiaaGreat
open Go.RowKit
def othersL (me : Int) (n : Nat) (m : Ms) : List Ms := ((List.range n).filter fun (t : Nat) => !((t : Int) == me)).map fun (t : Nat) => ⟨⟨me, (t : Int), m.m.kind, m.m.r⟩, m.L, m.D⟩
theorem msg_size : (Tryz.prog.info? 66).map (·.size) = some 20 := by kernel_rfl
theorem othersN_succ (me : Int) (k : Nat) (m : Ms) : othersL me (k + 1) m = if (k : Int) = me then othersL me k m else othersL me k m ++ [⟨⟨me, (k : Int), m.m.kind, m.m.r⟩, m.L, m.D⟩] := by
 unfold othersL
 rw [List.range_succ, List.filter_append, List.map_append]
 by_cases e : (k : Int) = me
 ·rw [if_pos e]; simp [e]
 ·rw [if_neg e]
  have : ((k : Int) == me) = false := by simpa using e
  simp [this]
theorem rdM_one (w : World) (g : Nat) (hg : g = w.heap.size) (m : Ms) : RdM (w.alloc (.cells #[.int .i64 m.m.frm, .int .i64 m.m.to, .int .i64 m.m.kind, .int .i64 m.m.r.i.r, .int .i64 m.m.r.i.n, .int .i64 m.m.r.bal, .int .i64 m.m.r.st, .int .i64 m.m.r.by_, .int .i64 m.m.r.e.o.c, .int .i64 m.m.r.e.o.s, .int .i64 m.m.r.e.o.k, .string (txt m.m.r.e.o.acct), .string (txt m.m.r.e.o.peer), .int .i64 m.m.r.e.o.sum, .slice m.L.a m.L.n m.L.c, .int .i64 m.m.r.e.o.per, .int .i64 m.m.r.e.o.hold, .string (txt m.m.r.e.o.note), .bool m.m.r.e.none, .slice m.D.a m.D.n m.D.c] 66)) (some ⟨g, 0, none⟩) 1 [m] :=
 rdn w 66 20 1 g #[.int .i64 m.m.frm, .int .i64 m.m.to, .int .i64 m.m.kind, .int .i64 m.m.r.i.r, .int .i64 m.m.r.i.n, .int .i64 m.m.r.bal, .int .i64 m.m.r.st, .int .i64 m.m.r.by_, .int .i64 m.m.r.e.o.c, .int .i64 m.m.r.e.o.s, .int .i64 m.m.r.e.o.k, .string (txt m.m.r.e.o.acct), .string (txt m.m.r.e.o.peer), .int .i64 m.m.r.e.o.sum, .slice m.L.a m.L.n m.L.c, .int .i64 m.m.r.e.o.per, .int .i64 m.m.r.e.o.hold, .string (txt m.m.r.e.o.note), .bool m.m.r.e.none, .slice m.D.a m.D.n m.D.c] (0, 0) hg rfl
set_option maxRecDepth 100000
theorem others_ok (w : World) (q : Nat) (me : Int) (n : Nat) (c0 : w.cell? ⟨q, 0, none⟩ = some (.int .i64 me)) (c1 : w.cell? ⟨q, 1, none⟩ = some (.int .i64 (n : Int))) (hn : n ≤ 1000) (m : Ms) :
  Calls Tryz.prog 35 #[.pointer (some ⟨q, 0, none⟩), .agg #[.int .i64 m.m.frm, .int .i64 m.m.to, .int .i64 m.m.kind, .int .i64 m.m.r.i.r, .int .i64 m.m.r.i.n, .int .i64 m.m.r.bal, .int .i64 m.m.r.st, .int .i64 m.m.r.by_, .int .i64 m.m.r.e.o.c, .int .i64 m.m.r.e.o.s, .int .i64 m.m.r.e.o.k, .string (txt m.m.r.e.o.acct), .string (txt m.m.r.e.o.peer), .int .i64 m.m.r.e.o.sum, .slice m.L.a m.L.n m.L.c, .int .i64 m.m.r.e.o.per, .int .i64 m.m.r.e.o.hold, .string (txt m.m.r.e.o.note), .bool m.m.r.e.none, .slice m.D.a m.D.n m.D.c]] w fun e w' =>
   ∃ A k c, e = .returned (.slice A k c) ∧ OwM w' A k c (othersL me n m) ∧ Fresh w A ∧ Mod none_ w w' := by
 have hq := World.block_lt_of_cell? w _ c0
 dsimp only at hq
 obtain ⟨⟨frm, too, kind, r⟩, L, D⟩ := m
 dsimp only
 have hb0 := zH (Blk.new w 66 #[.int .i64 me, .int .i64 too, .int .i64 kind, .int .i64 r.i.r, .int .i64 r.i.n, .int .i64 r.bal, .int .i64 r.st, .int .i64 r.by_, .int .i64 r.e.o.c, .int .i64 r.e.o.s, .int .i64 r.e.o.k, .string (txt r.e.o.acct), .string (txt r.e.o.peer), .int .i64 r.e.o.sum, .slice L.a L.n L.c, .int .i64 r.e.o.per, .int .i64 r.e.o.hold, .string (txt r.e.o.note), .bool r.e.none, .slice D.a D.n D.c])
 have hm0 := zH ((Mod.refl none_ w).alloc (.cells #[.int .i64 me, .int .i64 too, .int .i64 kind, .int .i64 r.i.r, .int .i64 r.i.n, .int .i64 r.bal, .int .i64 r.st, .int .i64 r.by_, .int .i64 r.e.o.c, .int .i64 r.e.o.s, .int .i64 r.e.o.k, .string (txt r.e.o.acct), .string (txt r.e.o.peer), .int .i64 r.e.o.sum, .slice L.a L.n L.c, .int .i64 r.e.o.per, .int .i64 r.e.o.hold, .string (txt r.e.o.note), .bool r.e.none, .slice D.a D.n D.c] 66))
 go_enter Tryz.func35, Tryz.ntmps35
 go_wp2_with fail
 go_loopw [16, 5] (fun y v wr => ∃ (j : Nat) (t : Int) (A : Option Addr) (k c : Nat), y = .int .i64 (j : Int) ∧ j ≤ n ∧ v = .slice A k c ∧ OwM wr A k c (othersL me j ⟨⟨frm, too, kind, r⟩, L, D⟩) ∧ Fresh w A ∧ ¬ fp A w.heap.size ∧ k ≤ j ∧ Blk wr w.heap.size 66 #[.int .i64 me, .int .i64 t, .int .i64 kind, .int .i64 r.i.r, .int .i64 r.i.n, .int .i64 r.bal, .int .i64 r.st, .int .i64 r.by_, .int .i64 r.e.o.c, .int .i64 r.e.o.s, .int .i64 r.e.o.k, .string (txt r.e.o.acct), .string (txt r.e.o.peer), .int .i64 r.e.o.sum, .slice L.a L.n L.c, .int .i64 r.e.o.per, .int .i64 r.e.o.hold, .string (txt r.e.o.note), .bool r.e.none, .slice D.a D.n D.c] ∧ Mod none_ w wr) (fun y _ _ => n - (intOf y).toNat)
 case atStart => exact ⟨0, too, none, 0, 0, rfl, by omega, rfl, Ow.nil _ _ _, (fun a ha => by cases ha), (fun ⟨a, ha, _⟩ => by cases ha), Nat.le_refl _, hb0.out, hm0.out⟩
 case round =>
  obtain ⟨j, t, A, k, c, rfl, hj, rfl, how, hf, hnf, hk, hb, hm⟩ := hrel
  have d0 : wr.cell? ⟨q, 0, none⟩ = some (.int .i64 me) := hm.cell_some c0 (fun h => h)
  have d1 : wr.cell? ⟨q, 1, none⟩ = some (.int .i64 (n : Int)) := hm.cell_some c1 (fun h => h)
  have hqr := World.block_lt_of_cell? wr _ d0
  dsimp only at hqr
  have hqw : ¬ q = w.heap.size := by omega
  have hlt := hb.lt
  have f1 : wr.frozen? ⟨w.heap.size, 1, none⟩ = false := hb.frozen 1
  have g1 : wr.cell? ⟨w.heap.size, 1, none⟩ = some (.int .i64 t) := hb.cell_ rfl
  have hb' := hb.set_ 1 (.int .i64 (j : Int))
  simp only [List.setIfInBounds_toArray, List.set_cons_succ, List.set_cons_zero] at hb'
  have hms := Mod.setCell (Mod.refl (fun k => k = w.heap.size) wr) (p := ⟨w.heap.size, 1, none⟩) (.inl rfl) (.int .i64 (j : Int))
  have how' := Ow.mod how hms (fun i hi he => hnf (he ▸ hi))
  have hM := hm.then hms (fun i hi he => by omega)
  have hsc := othersN_succ me j ⟨⟨frm, too, kind, r⟩, L, D⟩
  dsimp only at hsc
  have hjn : ((j : Int) < (n : Int)) ↔ j < n := by omega
  by_cases hlt2 : j < n
  ·by_cases he : (j : Int) = me
   ·rw [if_pos he] at hsc
    rw [he] at hb' how' hM
    replace how := zH how
    replace how' := zH how'
    replace hf := zH hf
    replace hnf := zH hnf
    replace hb := zH hb
    replace hb' := zH hb'
    replace hm := zH hm
    replace hms := zH hms
    replace hM := zH hM
    replace hsc := zH hsc
    replace hjn := zH hjn
    go_wp2_with fail
    go_roundw
    case rel => exact ⟨j + 1, _, A, k, c, by go_num, by omega, rfl, by rw [hsc.out]; exact how'.out, hf.out, hnf.out, by omega, hb'.out, hM.out⟩
    case measure => simp [intOf]; omega
   ·rw [if_neg he] at hsc
    have hra : RdM ((wr.setCell ⟨w.heap.size, 1, none⟩ (.int .i64 (j : Int))).alloc (.cells #[.int .i64 me, .int .i64 (j : Int), .int .i64 kind, .int .i64 r.i.r, .int .i64 r.i.n, .int .i64 r.bal, .int .i64 r.st, .int .i64 r.by_, .int .i64 r.e.o.c, .int .i64 r.e.o.s, .int .i64 r.e.o.k, .string (txt r.e.o.acct), .string (txt r.e.o.peer), .int .i64 r.e.o.sum, .slice L.a L.n L.c, .int .i64 r.e.o.per, .int .i64 r.e.o.hold, .string (txt r.e.o.note), .bool r.e.none, .slice D.a D.n D.c] 66)) (some ⟨wr.heap.size, 0, none⟩) 1 [⟨⟨me, (j : Int), kind, r⟩, L, D⟩] := rdM_one _ _ (by simp [World.setCell]) ⟨⟨me, (j : Int), kind, r⟩, L, D⟩
    have hoa := Ow.mod0 how' ((Mod.refl none_ _).alloc (.cells #[.int .i64 me, .int .i64 (j : Int), .int .i64 kind, .int .i64 r.i.r, .int .i64 r.i.n, .int .i64 r.bal, .int .i64 r.st, .int .i64 r.by_, .int .i64 r.e.o.c, .int .i64 r.e.o.s, .int .i64 r.e.o.k, .string (txt r.e.o.acct), .string (txt r.e.o.peer), .int .i64 r.e.o.sum, .slice L.a L.n L.c, .int .i64 r.e.o.per, .int .i64 r.e.o.hold, .string (txt r.e.o.note), .bool r.e.none, .slice D.a D.n D.c] 66))
    have hba := hb'.alloc (.cells #[.int .i64 me, .int .i64 (j : Int), .int .i64 kind, .int .i64 r.i.r, .int .i64 r.i.n, .int .i64 r.bal, .int .i64 r.st, .int .i64 r.by_, .int .i64 r.e.o.c, .int .i64 r.e.o.s, .int .i64 r.e.o.k, .string (txt r.e.o.acct), .string (txt r.e.o.peer), .int .i64 r.e.o.sum, .slice L.a L.n L.c, .int .i64 r.e.o.per, .int .i64 r.e.o.hold, .string (txt r.e.o.note), .bool r.e.none, .slice D.a D.n D.c] 66)
    have hMa := hM.alloc (.cells #[.int .i64 me, .int .i64 (j : Int), .int .i64 kind, .int .i64 r.i.r, .int .i64 r.i.n, .int .i64 r.bal, .int .i64 r.st, .int .i64 r.by_, .int .i64 r.e.o.c, .int .i64 r.e.o.s, .int .i64 r.e.o.k, .string (txt r.e.o.acct), .string (txt r.e.o.peer), .int .i64 r.e.o.sum, .slice L.a L.n L.c, .int .i64 r.e.o.per, .int .i64 r.e.o.hold, .string (txt r.e.o.note), .bool r.e.none, .slice D.a D.n D.c] 66)
    replace how := zH how
    replace how' := zH how'
    replace hf := zH hf
    replace hnf := zH hnf
    replace hb := zH hb
    replace hb' := zH hb'
    replace hm := zH hm
    replace hms := zH hms
    replace hM := zH hM
    replace hsc := zH hsc
    replace hjn := zH hjn
    replace hra := zH hra
    replace hoa := zH hoa
    replace hba := zH hba
    replace hMa := zH hMa
    go_wp2_with (first
     | (refine wpList_load_blk rfl 66 (.tmp 3) rfl w.heap.size 0 rfl hb'.out [.int .i64 me, .int .i64 (j : Int), .int .i64 kind, .int .i64 r.i.r, .int .i64 r.i.n, .int .i64 r.bal, .int .i64 r.st, .int .i64 r.by_, .int .i64 r.e.o.c, .int .i64 r.e.o.s, .int .i64 r.e.o.k, .string (txt r.e.o.acct), .string (txt r.e.o.peer), .int .i64 r.e.o.sum, .slice L.a L.n L.c, .int .i64 r.e.o.per, .int .i64 r.e.o.hold, .string (txt r.e.o.note), .bool r.e.none, .slice D.a D.n D.c] rfl Tryz.underlying66 rfl msg_size ?_)
     | (at_builtin; refine appM rfl (.tmp 27) (.tmp 29) rfl rfl hoa.out rfl hra.out (by omega) ?_; intro A' c' w' hown hmod hA))
    have hA2 : Fresh w A' ∧ ¬ fp A' w.heap.size := by
     rcases hA with rfl | rfl
     ·exact ⟨hf.out, hnf.out⟩
     ·exact ⟨fun a ha => by cases ha; have := hM.out.size; simp [World.setCell] at this ⊢; omega, fun ⟨a, ha, hk⟩ => by cases ha; simp [World.setCell] at hk; omega⟩
    have hbz := zH (hba.out.mod hmod hnf.out)
    have hMz := zH (hMa.out.then hmod (fun i hi hk => by obtain ⟨a, ha, rfl⟩ := hk; have := hf.out a ha; omega))
    replace hown := zH hown
    replace hmod := zH hmod
    replace hA2 := zH hA2
    clear hA
    go_wp2_with fail
    go_roundw
    case rel => exact ⟨j + 1, _, A', k + 1, c', by go_num, by omega, rfl, by rw [hsc.out]; exact hown.out, hA2.out.1, hA2.out.2, by omega, hbz.out, hMz.out⟩
    case measure => simp [intOf]; omega
  ·obtain rfl : j = n := by omega
   replace how := zH how
   replace how' := zH how'
   replace hf := zH hf
   replace hnf := zH hnf
   replace hb := zH hb
   replace hb' := zH hb'
   replace hm := zH hm
   replace hms := zH hms
   replace hM := zH hM
   replace hsc := zH hsc
   replace hjn := zH hjn
   go_wp2_with fail
   go_ret
   exact ⟨A, k, c, rfl, how.out, hf.out, hm.out⟩
set_option maxRecDepth 512
theorem cloneIs_info : (Tryz.prog.info? 27).map (fun i => (i.zero, i.size, i.bytes)) = some (some (.agg #[.int .i64 0, .int .i64 0]), 2, 16) := by kernel_rfl
set_option maxRecDepth 100000
theorem cloneIs_ok (w : World) (xs : List Value) (hone : ∀ u ∈ xs, u.oneCell' = true) (B : Option Addr) (n d : Nat) (h : Rd w 2 B n xs) (hn : n ≤ 100000000) : Calls Tryz.prog 155 #[.slice B n d] w fun e w' =>
  ∃ A' c', e = .returned (.slice A' n c') ∧ Ow w' 27 2 A' n c' xs ∧ Fresh w A' ∧ Mod none_ w w' := by
 obtain ⟨i0, hi, hz0, hz1, hz2⟩ := info_parts cloneIs_info
 have hq := fun (w : World) (a : Option Addr) (n c : Nat) => Lib.run_eql_slice_nil (P := Tryz.prog) w 22 _ a n c 0 0 Tryz.underlying22
 have hlen := h.1
 rcases B with _ | a
 ·have hn0 : n = 0 := by
   rcases Nat.eq_zero_or_pos n with h0 | h0
   ·exact h0
   ·obtain ⟨ad, h, _⟩ := h.2 h0; cases h
  subst hn0
  have hl : xs = [] := List.eq_nil_of_length_eq_zero (by omega)
  subst hl
  clear h hn hlen
  go_enter Tryz.func155, Tryz.ntmps155
  go_wp2
  go_ret
  exact ⟨none, 0, rfl, Ow.nil _ _ _, (fun _ h => by cases h), Mod.refl _ _⟩
 ·clear hlen
  go_enter Tryz.func155, Tryz.ntmps155
  go_wp2_with (at_builtin; refine wpList_append_ow rfl (.tmp 5) (.tmp 6) 22 rfl 27 i0 _ 2 16 Tryz.underlying22 hi hz0 hz1 hz2 rfl (by omega) (some ⟨w.heap.size, 0, none⟩) 0 0 [] rfl ?_ (some a) n d xs rfl ?_ hone (by omega) (by omega) ?_)
  ·exact Ow.new w _ 2 0 #[] (Nat.zero_le _) rfl
  ·exact Rd.alloc h _
  ·intro A' c' w1 hown hmod hA'
   go_wp2
   go_ret
   refine ⟨A', c', rfl, hown, ?_, ((Mod.refl none_ w).alloc (.cells #[] 27)).then hmod ?_⟩
   ·rintro b hb
    rcases hA' with rfl | rfl <;> cases hb <;> simp
   ·rintro k hk ⟨b, hb, rfl⟩
    cases hb
    simp at hk
set_option maxRecDepth 512
theorem cloneLg_info : (Tryz.prog.info? 139).map (fun i => (i.zero, i.size, i.bytes)) = some (some (.agg #[.string ⟨#[]⟩, .int .i64 0]), 2, 24) := by kernel_rfl
set_option maxRecDepth 100000
theorem cloneLg_ok (w : World) (xs : List Value) (hone : ∀ u ∈ xs, u.oneCell' = true) (B : Option Addr) (n d : Nat) (h : Rd w 2 B n xs) (hn : n ≤ 100000000) : Calls Tryz.prog 156 #[.slice B n d] w fun e w' =>
  ∃ A' c', e = .returned (.slice A' n c') ∧ Ow w' 139 2 A' n c' xs ∧ Fresh w A' ∧ Mod none_ w w' := by
 obtain ⟨i0, hi, hz0, hz1, hz2⟩ := info_parts cloneLg_info
 have hq := fun (w : World) (a : Option Addr) (n c : Nat) => Lib.run_eql_slice_nil (P := Tryz.prog) w 38 _ a n c 0 0 Tryz.underlying38
 have hlen := h.1
 rcases B with _ | a
 ·have hn0 : n = 0 := by
   rcases Nat.eq_zero_or_pos n with h0 | h0
   ·exact h0
   ·obtain ⟨ad, h, _⟩ := h.2 h0; cases h
  subst hn0
  have hl : xs = [] := List.eq_nil_of_length_eq_zero (by omega)
  subst hl
  clear h hn hlen
  go_enter Tryz.func156, Tryz.ntmps156
  go_wp2
  go_ret
  exact ⟨none, 0, rfl, Ow.nil _ _ _, (fun _ h => by cases h), Mod.refl _ _⟩
 ·clear hlen
  go_enter Tryz.func156, Tryz.ntmps156
  go_wp2_with (at_builtin; refine wpList_append_ow rfl (.tmp 5) (.tmp 6) 38 rfl 139 i0 _ 2 24 Tryz.underlying38 hi hz0 hz1 hz2 rfl (by omega) (some ⟨w.heap.size, 0, none⟩) 0 0 [] rfl ?_ (some a) n d xs rfl ?_ hone (by omega) (by omega) ?_)
  ·exact Ow.new w _ 2 0 #[] (Nat.zero_le _) rfl
  ·exact Rd.alloc h _
  ·intro A' c' w1 hown hmod hA'
   go_wp2
   go_ret
   refine ⟨A', c', rfl, hown, ?_, ((Mod.refl none_ w).alloc (.cells #[] 139)).then hmod ?_⟩
   ·rintro b hb
    rcases hA' with rfl | rfl <;> cases hb <;> simp
   ·rintro k hk ⟨b, hb, rfl⟩
    cases hb
    simp at hk
set_option maxRecDepth 512
theorem cloneRw_info : (Tryz.prog.info? 31).map (fun i => (i.zero, i.size, i.bytes)) = some (some (.slice none 0 0), 1, 24) := by kernel_rfl
set_option maxRecDepth 100000
theorem cloneRw_ok (w : World) (xs : List Value) (hone : ∀ u ∈ xs, u.oneCell' = true) (B : Option Addr) (n d : Nat) (h : Rd w 1 B n xs) (hn : n ≤ 100000000) : Calls Tryz.prog 89 #[.slice B n d] w fun e w' =>
  ∃ A' c', e = .returned (.slice A' n c') ∧ Ow w' 31 1 A' n c' xs ∧ Fresh w A' ∧ Mod none_ w w' := by
 obtain ⟨i0, hi, hz0, hz1, hz2⟩ := info_parts cloneRw_info
 have hq := fun (w : World) (a : Option Addr) (n c : Nat) => Lib.run_eql_slice_nil (P := Tryz.prog) w 165 _ a n c 0 0 Tryz.underlying165
 have hlen := h.1
 rcases B with _ | a
 ·have hn0 : n = 0 := by
   rcases Nat.eq_zero_or_pos n with h0 | h0
   ·exact h0
   ·obtain ⟨ad, h, _⟩ := h.2 h0; cases h
  subst hn0
  have hl : xs = [] := List.eq_nil_of_length_eq_zero (by omega)
  subst hl
  clear h hn hlen
  go_enter Tryz.func89, Tryz.ntmps89
  go_wp2
  go_ret
  exact ⟨none, 0, rfl, Ow.nil _ _ _, (fun _ h => by cases h), Mod.refl _ _⟩
 ·clear hlen
  go_enter Tryz.func89, Tryz.ntmps89
  go_wp2_with (at_builtin; refine wpList_append_ow rfl (.tmp 5) (.tmp 6) 165 rfl 31 i0 _ 1 24 Tryz.underlying165 hi hz0 hz1 hz2 rfl (by omega) (some ⟨w.heap.size, 0, none⟩) 0 0 [] rfl ?_ (some a) n d xs rfl ?_ hone (by omega) (by omega) ?_)
  ·exact Ow.new w _ 1 0 #[] (Nat.zero_le _) rfl
  ·exact Rd.alloc h _
  ·intro A' c' w1 hown hmod hA'
   go_wp2
   go_ret
   refine ⟨A', c', rfl, hown, ?_, ((Mod.refl none_ w).alloc (.cells #[] 31)).then hmod ?_⟩
   ·rintro b hb
    rcases hA' with rfl | rfl <;> cases hb <;> simp
   ·rintro k hk ⟨b, hb, rfl⟩
    cases hb
    simp at hk
set_option maxRecDepth 512
theorem cloneOd_info : (Tryz.prog.info? 40).map (fun i => (i.zero, i.size, i.bytes)) = some (some (.agg #[.int .i64 0, .int .i64 0, .int .i64 0, .string ⟨#[]⟩, .string ⟨#[]⟩, .int .i64 0, .slice none 0 0, .int .i64 0, .int .i64 0, .string ⟨#[]⟩]), 10, 120) := by kernel_rfl
set_option maxRecDepth 100000
theorem cloneOd_ok (w : World) (xs : List Value) (hone : ∀ u ∈ xs, u.oneCell' = true) (B : Option Addr) (n d : Nat) (h : Rd w 10 B n xs) (hn : n ≤ 100000000) : Calls Tryz.prog 92 #[.slice B n d] w fun e w' =>
  ∃ A' c', e = .returned (.slice A' n c') ∧ Ow w' 40 10 A' n c' xs ∧ Fresh w A' ∧ Mod none_ w w' := by
 obtain ⟨i0, hi, hz0, hz1, hz2⟩ := info_parts cloneOd_info
 have hq := fun (w : World) (a : Option Addr) (n c : Nat) => Lib.run_eql_slice_nil (P := Tryz.prog) w 30 _ a n c 0 0 Tryz.underlying30
 have hlen := h.1
 rcases B with _ | a
 ·have hn0 : n = 0 := by
   rcases Nat.eq_zero_or_pos n with h0 | h0
   ·exact h0
   ·obtain ⟨ad, h, _⟩ := h.2 h0; cases h
  subst hn0
  have hl : xs = [] := List.eq_nil_of_length_eq_zero (by omega)
  subst hl
  clear h hn hlen
  go_enter Tryz.func92, Tryz.ntmps92
  go_wp2
  go_ret
  exact ⟨none, 0, rfl, Ow.nil _ _ _, (fun _ h => by cases h), Mod.refl _ _⟩
 ·clear hlen
  go_enter Tryz.func92, Tryz.ntmps92
  go_wp2_with (at_builtin; refine wpList_append_ow rfl (.tmp 5) (.tmp 6) 30 rfl 40 i0 _ 10 120 Tryz.underlying30 hi hz0 hz1 hz2 rfl (by omega) (some ⟨w.heap.size, 0, none⟩) 0 0 [] rfl ?_ (some a) n d xs rfl ?_ hone (by omega) (by omega) ?_)
  ·exact Ow.new w _ 10 0 #[] (Nat.zero_le _) rfl
  ·exact Rd.alloc h _
  ·intro A' c' w1 hown hmod hA'
   go_wp2
   go_ret
   refine ⟨A', c', rfl, hown, ?_, ((Mod.refl none_ w).alloc (.cells #[] 40)).then hmod ?_⟩
   ·rintro b hb
    rcases hA' with rfl | rfl <;> cases hb <;> simp
   ·rintro k hk ⟨b, hb, rfl⟩
    cases hb
    simp at hk
end Go.Proofs.YtfkfiokkjjnhiaaGreat
namespace Go.Proofs.YtfkfiokkjjnhiaaGreat
open Go.RowKit
open Go.Maps (Keyed)
theorem idKeyed : Keyed Tryz.prog 37 := Keyed.of_law (deep_law_laid (by kernel_rfl) (m := 2) (by omega) (by decide +kernel) (by kernel_rfl) (by kernel_rfl))
theorem id_cells : Tryz.prog.cellsOf 37 = 2 := by kernel_rfl
theorem id_lits (N : Nat) (a b : Value) : Tryz.prog.keyLits (N + 1 + 1) 37 [a, b] = (match Tryz.prog.keyLits (N + 1) 3 [a], Tryz.prog.keyLits (N + 1) 3 [b] with | some x, some y => some (x ++ y) | _, _ => none) := by
 conv => lhs; unfold Program.keyLits
 simp only [Tryz.underlying37]
 simp [id_cells, int_cells]
 cases Tryz.prog.keyLits (N + 1) 3 [a] with
 | none => rfl
 | some x =>
  cases Tryz.prog.keyLits (N + 1) 3 [b] with
  | none => rfl
  | some y => simp
set_option maxRecDepth 100000
theorem klD_of {i : Is} (h : inI i) : keyOf Tryz.prog 37 (isVal i) = some (klI i) := by
 have hkt : Tryz.prog.keyType 37 = true := by kernel_rfl
 unfold keyOf isVal klI
 rw [Tryz.underlying37]
 simp only
 rw [if_pos (by simp [hkt, Value.formed, Tryz.underlying37, id_cells])]
 obtain ⟨N, hN⟩ := types_pos
 rw [hN]
 show (Tryz.prog.keyLits (N + 1 + 1) 37 [.int .i64 i.r, .int .i64 i.n]).map _ = _
 rw [id_lits, int_lits, int_lits]
 simp only [h.1, h.2, and_self, if_true]
 rfl
theorem klD_inv {v : Value} {l : Lit} (h : keyOf Tryz.prog 37 v = some l) : ∃ i, v = isVal i ∧ inI i ∧ l = klI i := by
 unfold keyOf at h
 rw [Tryz.underlying37] at h
 simp only at h
 split at h
 ·rename_i hc
  simp only [Bool.and_eq_true] at hc
  obtain ⟨N, hN⟩ := types_pos
  rw [hN] at h
  have hf := hc.2
  unfold Value.formed at hf
  cases v with
  | agg cs =>
   simp only [Tryz.underlying37, id_cells, beq_iff_eq] at hf
   obtain ⟨a, b, hab⟩ : ∃ a b, cs = #[a, b] := by
    match cs, hf with
    | ⟨[a, b]⟩, _ => exact ⟨a, b, rfl⟩
   subst hab
   change (Tryz.prog.keyLits (N + 1 + 1) 37 [a, b]).map _ = _ at h
   rw [id_lits, int_lits, int_lits] at h
   cases a <;> first | (simp at h; done) | skip
   cases b <;> first | (simp at h; done) | skip
   rename_i q x q' y
   by_cases h1 : q = .i64 ∧ (Lit.int .i64 x).wf = true
   ·by_cases h2 : q' = .i64 ∧ (Lit.int .i64 y).wf = true
    ·obtain ⟨rfl, w1⟩ := h1
     obtain ⟨rfl, w2⟩ := h2
     simp only [w1, w2, and_self, if_true] at h
     exact ⟨⟨x, y⟩, rfl, ⟨w1, w2⟩, by simpa [klI] using h.symm⟩
    ·simp only [h2, if_false] at h
     split at h <;> first | (simp at h; done) | (rename_i he; cases he)
   ·simp only [h1, if_false] at h
    simp at h
  | _ => simp [Tryz.underlying37] at hf
 ·cases h
def MapD (w : World) (b : Nat) (L : List InstV) : Prop := ∃ n D, n < maxLen ∧ w.ownsMap Tryz.prog 37 VR b n D ∧ RepI D L
section
variable {F : Nat → Prop} {w w' : World} {b : Nat} {L : List InstV}
theorem MapD.lt (h : MapD w b L) : b < w.heap.size := by obtain ⟨n, D, _, h, _⟩ := h; exact h.lt
theorem MapD.nodup (h : MapD w b L) : L.Pairwise fun p q => p.1 ≠ q.1 := by obtain ⟨n, D, _, _, h⟩ := h; exact h.nodup
theorem MapD.wf (h : MapD w b L) : ∀ p ∈ L, inI p.1 := by obtain ⟨n, D, _, _, h⟩ := h; exact h.wf
theorem MapD.mod (h : MapD w b L) (hm : Mod F w w') (hb : ¬ F b) : MapD w' b L := by
 obtain ⟨n, D, hn, ⟨es, clock, h1, h2⟩, h3⟩ := h
 exact ⟨n, D, hn, ⟨es, clock, (hm.block b (Array.getElem?_eq_some_iff.1 h1).1 hb).trans h1, h2⟩, h3⟩
theorem MapD.alloc (h : MapD w b L) (o : Obj) : MapD (w.alloc o) b L := by obtain ⟨n, D, hn, h1, h3⟩ := h; exact ⟨n, D, hn, h1.alloc o, h3⟩
theorem MapD.made (w : World) : MapD (w.alloc (.map #[] 0)) w.heap.size [] := ⟨0, _, by decide, World.ownsMap_made _ _ _ _, RepI.nil⟩
theorem MapD.tight (h : MapD w b L) : ∃ D, w.ownsMap Tryz.prog 37 VR b L.length D ∧ RepI D L := by
 obtain ⟨n, D, hn, ⟨es, clock, h1, h2, h3, h4⟩, h5⟩ := h
 refine ⟨D, ⟨es, clock, h1, h2, ?_, h4⟩, h5⟩
 have := congrArg Maps.size h4
 rw [h5.size] at this
 rw [this]; simp [Maps.size, length_sorted]
theorem MapD.store_run (h : MapD w b L) {t e : TypeId} (ht : Tryz.prog.underlying t = some (.map 37 e)) (hroom : L.length + 1 < maxLen) {i : Is} (hi : inI i) (val : Value) :
  ∃ w', (Instr.mapUpdate t (.map (some b)) (isVal i) val).run Tryz.prog w = .ok () w' ∧ MapD w' b (putI' i val L) ∧ Mod (· = b) w w' ∧ w'.heap.size = w.heap.size := by
 obtain ⟨D, h1, h2⟩ := h.tight
 obtain ⟨w', hrun, h3, h4⟩ := h1.store idKeyed ht (by omega) (klD_of hi) (d := .held val) (ps := []) (show VR val = some (.held val, []) from rfl)
 refine ⟨w', hrun, ⟨_, _, hroom, h3, h2.put hi val⟩, (Mod.of_grown h4.grown).mono fun i hi => by cases hi; rfl, ?_⟩
 obtain ⟨es, c, es', c', _, rfl⟩ := h4
 simp [ChangeMaps.setBlock]
theorem MapD.look_run (h : MapD w b L) {t e : TypeId} (ht : Tryz.prog.underlying t = some (.map 37 e)) {z : Value} (hz : (zeroValue e).run Tryz.prog w = .ok z w) {i : Is} (hi : inI i) :
  (Instr.lookup t (.map (some b)) (isVal i) true).run Tryz.prog w = .ok (.tuple #[(findI L i).getD z, .bool (findI L i).isSome]) w := by
 obtain ⟨D, h1, h2⟩ := h.tight
 obtain ⟨v, ps, hrun, hv⟩ := h1.look_ok idKeyed ht hz (zd := .held z) (zp := []) rfl (klD_of hi)
 rw [h2.at_ i hi] at hv
 have : v = (findI L i).getD z := by simp [VR] at hv; exact hv.1
 rw [this, h2.has i hi] at hrun
 exact hrun
theorem MapD.len_run (h : MapD w b L) {t e : TypeId} (ht : Tryz.prog.underlying t = some (.map 37 e)) (ty : TypeId) : (Builtin.len_ #[t] ty #[.map (some b)]).run Tryz.prog w = .ok (.int .i64 (L.length : Nat)) w := by
 obtain ⟨D, h1, h2⟩ := h.tight
 have := h1.len ht ty
 rw [h2.size] at this
 exact this
theorem MapD.drop_run (h : MapD w b L) {t e : TypeId} (ht : Tryz.prog.underlying t = some (.map 37 e)) {i : Is} (hi : inI i) (ty : TypeId) :
  ∃ w', (Builtin.delete_ #[t, 37] ty #[.map (some b), isVal i]).run Tryz.prog w = .ok (.tuple #[]) w' ∧ MapD w' b (dropI i L) ∧ Mod (· = b) w w' ∧ w'.heap.size = w.heap.size := by
 obtain ⟨n, D, hn, h1, h2⟩ := h
 obtain ⟨w', hrun, h3, h4⟩ := h1.drop idKeyed ht (klD_of hi) ty
 refine ⟨w', hrun, ⟨n, _, hn, h3, h2.del hi⟩, (Mod.of_grown h4.grown).mono fun i hi => by cases hi; rfl, ?_⟩
 obtain ⟨es, c, es', c', _, rfl⟩ := h4
 simp [ChangeMaps.setBlock]
end
def ItD (w : World) (b r : Nat) (L R : List InstV) : Prop := ∃ n D left cnt, w.ranges Tryz.prog 37 VR b r n D left cnt ∧ RepI D L ∧ R = L.filter fun p => left (klI p.1)
theorem ItD.mod {F : Nat → Prop} {w w' : World} {b r : Nat} {L R : List InstV} (h : ItD w b r L R) (hm : Mod F w w') (hb : ¬ F b) (hr : ¬ F r) : ItD w' b r L R := by
 obtain ⟨n, D, left, cnt, ⟨es, clock, since, seen, c0, h1, h2, h3, h4, h5, h6⟩, h7, h8⟩ := h
 have lb : b < w.heap.size := (Array.getElem?_eq_some_iff.1 h1).1
 have lr : r < w.heap.size := (Array.getElem?_eq_some_iff.1 h5).1
 exact ⟨n, D, left, cnt, ⟨es, clock, since, seen, c0, (hm.block b lb hb).trans h1, h2, h3, h4, (hm.block r lr hr).trans h5, h6⟩, h7, h8⟩
theorem ItD.next {w : World} {b r : Nat} {L R : List InstV} (h : ItD w b r L R) (ty : TypeId) :
  (R = [] ∧ (Instr.next (.pointer (some ⟨r, 0, none⟩)) false ty).run Tryz.prog w = .ok (.tuple #[.bool false]) w) ∨
  ∃ (p : InstV) (w' : World), p ∈ R ∧ p ∈ L ∧ ItD w' b r L (dropI p.1 R) ∧ ((dropI p.1 R).length < R.length ∧ w'.rangeLeft b r < w.rangeLeft b r) ∧ Mod (· = r) w w' ∧ w'.heap.size = w.heap.size ∧
   (Instr.next (.pointer (some ⟨r, 0, none⟩)) false ty).run Tryz.prog w = .ok (.tuple #[.bool true, isVal p.1, p.2]) w' ∧
   (Instr.entry (.pointer (some ⟨r, 0, none⟩))).run Tryz.prog w' = .ok (.tuple #[isVal p.1, p.2]) w' := by
 obtain ⟨n, D, left, cnt, hr, h2, h3⟩ := h
 rcases hr.next idKeyed ty with ⟨h0, hl, hrun⟩ | ⟨key, v, kl, y, w', cnt', hkey, hlk, hv, hat, hrun, hrg, hlt, hgr, hsz, hen⟩
 ·refine .inl ⟨?_, hrun⟩
  rw [h3, List.filter_eq_nil_iff]
  intro p _
  rw [hl]; simp
 ·right
  obtain ⟨i, rfl, hi, rfl⟩ := klD_inv hkey
  have hy : y = (.held v, []) := by unfold VR at hv; exact (Option.some.inj hv).symm
  subst hy
  have hfs : (findI L i).isSome = true := by
   rw [← h2.has i hi]
   cases hh : Maps.has D (klI i) with
   | true => rfl
   | false =>
    have := Maps.atKey_of_not_has hh (.held (.bool true))
    have h5 := Maps.atKey_of_not_has hh (.held (.bool false))
    rw [hat] at this h5
    rw [this] at h5
    cases h5
  obtain ⟨v', hf⟩ := Option.isSome_iff_exists.1 hfs
  have hvv : v' = v := by
   have h5 := h2.at_ i hi v
   rw [hat, hf] at h5
   simpa using h5.symm
  subst hvv
  have hm := findI_mem hf
  have hmR : (i, v') ∈ R := by rw [h3]; exact List.mem_filter.2 ⟨hm, hlk⟩
  have hR' : dropI i R = L.filter fun p => (left (klI p.1) && !(klI p.1).sameKey (klI i)) := by
   rw [h3]
   unfold dropI
   rw [List.filter_filter]
   refine List.filter_congr fun p hp => ?_
   by_cases e : p.1 = i
   ·rw [e]
    have : (klI i).sameKey (klI i) = true := WideAt.sameKey_self (klI_key i)
    simp [this]
   ·have : (klI p.1).sameKey (klI i) = false := Maps.sameKey_ne (fun h => e (klI_inj (h2.wf p hp) hi h))
    have e2 : (p.1 == i) = false := by simpa using e
    rw [this, e2]
    simp
  have hRn : R.Pairwise fun p q => p.1 ≠ q.1 := by rw [h3]; exact h2.nodup.filter _
  refine ⟨(i, v'), w', hmR, hm, ⟨n, D, _, cnt', hrg, h2, hR'⟩, ?_, (Mod.of_grown hgr).mono fun k hk => by cases hk; rfl, hsz, hrun, hen⟩
  have := drop_some hRn (findI_of_mem hRn hmR)
  refine ⟨?_, by rw [hrg.left_eq, hr.left_eq]; exact hlt⟩
  show (dropI i R).length < R.length
  omega
end Go.Proofs.YtfkfiokkjjnhiaaGreat
namespace Go.Proofs.YtfkfiokkjjnhiaaGreat
open Go.RowKit
structure Ac where
 n : List UInt8
 h : Int
 s : Int
 l : Int
deriving DecidableEq
def acV (a : Ac) : Value := .agg #[.string (txt a.n), .int .i64 a.h, .int .i64 a.s, .int .i64 a.l]
def entA (a : Ac) : NameV := (a.n, acV a)
def ents (C : List Ac) : List NameV := C.map entA
def SortedC (C : List Ac) : Prop := C.Pairwise fun a b => bytesBefore a.n b.n = true
def getC (C : List Ac) (s : List UInt8) : Option Ac := C.find? fun a => a.n == s
theorem sortedC_iff (C : List Ac) : Sorted (ents C) ↔ SortedC C := by
 unfold Sorted ents SortedC
 rw [List.pairwise_map]; rfl
theorem find_ents (C : List Ac) (s : List UInt8) : findL (ents C) s = (getC C s).map acV := by
 unfold findL ents getC
 induction C with
 | nil => rfl
 | cons y l ih =>
  simp only [List.map_cons, List.find?_cons]
  have : ((entA y).1 == s) = (y.n == s) := rfl
  rw [this]
  cases h : (y.n == s) with
  | true => rfl
  | false => simpa using ih
end Go.Proofs.YtfkfiokkjjnhiaaGreat
