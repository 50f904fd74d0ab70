import Derived.Test.YtdnbclhidpkpgaaGreatKp1
import Derived.Test.YtdnbclhidpkpgaaGreatKp2
import Derived.Maps.OwnSet
import Derived.Maps.RangeWalk
import Derived.WideKeyPair
import Derived.DeepKeys4
import Derived.Test.YtdnbclhidpkpgaaGreatKp10
import Derived.Test.YtdnbclhidpkpgaaGreatRows
import Derived.Deep.RegionLaw
import Derived.ChangeAlike
import Derived.Deep.QuietTactic
import Derived.Deep.MidRow
import Derived.Laws.ResultCell
import Derived.Deep.LoopGhost
import Derived.Lib.SliceRun
/-
  Maps by Inst: what they hold, as lists of pairs in whatever order. No condition.
-/
namespace Go.Proofs.YtdnbclhidpkpgaaGreat
set_option linter.unusedVariables false
set_option linter.unusedSimpArgs false
open Go.RowKit
open Go.Maps (Keyed)
def isVal (i : Is) : Value := .agg #[.int .i64 i.r, .int .i64 i.n]
def inI (i : Is) : Prop := (Lit.int .i64 i.r).wf = true ∧ (Lit.int .i64 i.n).wf = true
def klI (i : Is) : Lit := .string (keyBytes [.int .i64 i.r, .int .i64 i.n])
theorem instKeyed : Keyed Tryz.prog 25 := Keyed.of_law (deep_law_laid (by kernel_rfl) (m := 2) (by omega) (by decide +kernel) (by kernel_rfl) (by kernel_rfl))
theorem types_pos : ∃ N, Tryz.prog.types.size = N + 1 := ⟨Tryz.prog.types.size - 1, (Nat.sub_add_cancel (by decide +kernel)).symm⟩
theorem inst_cells : Tryz.prog.cellsOf 25 = 2 := by kernel_rfl
theorem int_cells : Tryz.prog.cellsOf 3 = 1 := by kernel_rfl
theorem inst_lits (N : Nat) (a b : Value) : Tryz.prog.keyLits (N + 1 + 1) 25 [a, b] = (match Tryz.prog.keyLits (N + 1) 3 [a], Tryz.prog.keyLits (N + 1) 3 [b] with | some x, some y => some (x ++ y) | _, _ => none) := by
  conv => lhs; unfold Program.keyLits
  simp only [Tryz.underlying25]
  simp [inst_cells, int_cells]
  cases Tryz.prog.keyLits (N + 1) 3 [a] with
  | none => rfl
  | some x =>
    cases Tryz.prog.keyLits (N + 1) 3 [b] with
    | none => rfl
    | some y => simp
theorem int_lits (N : Nat) (a : Value) : Tryz.prog.keyLits (N + 1) 3 [a] = (match a with | .int q n => if q = .i64 ∧ (Lit.int .i64 n).wf = true then some [.int .i64 n] else none | _ => none) := by
  conv => lhs; unfold Program.keyLits
  simp only [Tryz.underlying3]
  cases a <;> rfl
set_option maxRecDepth 100000 in
theorem klI_of {i : Is} (h : inI i) : keyOf Tryz.prog 25 (isVal i) = some (klI i) := by
  have hkt : Tryz.prog.keyType 25 = true := by kernel_rfl
  unfold keyOf isVal klI
  rw [Tryz.underlying25]
  simp only
  rw [if_pos (by simp [hkt, Value.formed, Tryz.underlying25, inst_cells])]
  obtain ⟨N, hN⟩ := types_pos
  rw [hN]
  show (Tryz.prog.keyLits (N + 1 + 1) 25 [.int .i64 i.r, .int .i64 i.n]).map _ = _
  rw [inst_lits, int_lits, int_lits]
  simp only [h.1, h.2, and_self, if_true]
  rfl
set_option maxRecDepth 100000 in
theorem klI_inv {v : Value} {l : Lit} (h : keyOf Tryz.prog 25 v = some l) : ∃ i, v = isVal i ∧ inI i ∧ l = klI i := by
  unfold keyOf at h
  rw [Tryz.underlying25] at h
  simp only at h
  split at h
  · rename_i hc
    simp only [Bool.and_eq_true] at hc
    obtain ⟨N, hN⟩ := types_pos
    rw [hN] at h
    have hf := hc.2
    unfold Value.formed at hf
    cases v with
    | agg cs =>
      simp only [Tryz.underlying25, inst_cells, beq_iff_eq] at hf
      obtain ⟨a, b, hab⟩ : ∃ a b, cs = #[a, b] := by
        match cs, hf with
        | ⟨[a, b]⟩, _ => exact ⟨a, b, rfl⟩
      subst hab
      change (Tryz.prog.keyLits (N + 1 + 1) 25 [a, b]).map _ = _ at h
      rw [inst_lits, int_lits, int_lits] at h
      cases a <;> first | (simp at h; done) | skip
      cases b <;> first | (simp at h; done) | skip
      rename_i q x q' y
      by_cases h1 : q = .i64 ∧ (Lit.int .i64 x).wf = true
      · by_cases h2 : q' = .i64 ∧ (Lit.int .i64 y).wf = true
        · obtain ⟨rfl, w1⟩ := h1
          obtain ⟨rfl, w2⟩ := h2
          simp only [w1, w2, and_self, if_true] at h
          exact ⟨⟨x, y⟩, rfl, ⟨w1, w2⟩, by simpa [klI] using h.symm⟩
        · simp only [h2, if_false] at h
          split at h <;> first | (simp at h; done) | (rename_i he; cases he)
      · simp only [h1, if_false] at h
        simp at h
    | _ => simp [Tryz.underlying25] at hf
  · cases h
theorem isVal_inj {i j : Is} (h : isVal i = isVal j) : i = j := by
  obtain ⟨a, b⟩ := i
  obtain ⟨c, d⟩ := j
  simp [isVal] at h
  rw [h.1, h.2]
theorem klI_inj {i j : Is} (hi : inI i) (hj : inI j) (h : klI i = klI j) : i = j := by
  have h1 := klI_of hi
  have h2 := klI_of hj
  rw [← h] at h2
  exact isVal_inj (instKeyed.inj h1 h2)
theorem klI_key (i : Is) : WideAt.IsKeyLit (klI i) := trivial
/-! ### what a map holds -/
abbrev InstV := Is × Value
def findI (L : List InstV) (i : Is) : Option Value := (L.find? (fun p => p.1 == i)).map (·.2)
def putI' (i : Is) (v : Value) (L : List InstV) : List InstV := (i, v) :: L.filter fun p => !(p.1 == i)
def dropI (i : Is) (L : List InstV) : List InstV := L.filter fun p => !(p.1 == i)
structure RepI (D : DataW Value) (L : List InstV) : Prop where
  tidy : Maps.Tidy D
  nodup : L.Pairwise fun p q => p.1 ≠ q.1
  wf : ∀ p ∈ L, inI p.1
  size : Maps.size D = L.length
  at_ : ∀ i, inI i → ∀ z, D.atKey (klI i) (.held z) = .held ((findI L i).getD z)
  has : ∀ i, inI i → Maps.has D (klI i) = (findI L i).isSome
theorem findI_nil (i : Is) : findI [] i = none := rfl
theorem findI_put_same (L : List InstV) (i : Is) (v : Value) : findI (putI' i v L) i = some v := by simp [findI, putI']
theorem findI_drop_same (L : List InstV) (i : Is) : findI (dropI i L) i = none := by
  unfold findI dropI
  rw [List.find?_filter]
  rw [Option.map_eq_none_iff, List.find?_eq_none]
  intro x _
  cases (x.1 == i) <;> simp
theorem findI_drop_other (L : List InstV) {i j : Is} (h : j ≠ i) : findI (dropI i L) j = findI L j := by
  unfold findI dropI
  rw [List.find?_filter]
  congr 2
  funext a
  by_cases hj : a.1 = j
  · have h1 : (a.1 == i) = false := by simp [hj, h]
    have h2 : (a.1 == j) = true := by simp [hj]
    rw [h1, h2]; rfl
  · have h2 : (a.1 == j) = false := by simp [hj]
    rw [h2]; simp
theorem findI_put_other (L : List InstV) {i j : Is} (v : Value) (h : j ≠ i) : findI (putI' i v L) j = findI L j := by
  have : findI (putI' i v L) j = findI (dropI i L) j := by
    unfold findI putI' dropI
    rw [List.find?_cons_of_neg (by simpa using fun e => h e.symm)]
  rw [this, findI_drop_other L h]
theorem findI_mem {L : List InstV} {i : Is} {v : Value} (h : findI L i = some v) : (i, v) ∈ L := by
  unfold findI at h
  cases hf : L.find? (fun p => p.1 == i) with
  | none => rw [hf] at h; cases h
  | some p =>
    rw [hf] at h
    simp only [Option.map_some, Option.some.injEq] at h
    have h1 := List.mem_of_find?_eq_some hf
    have h2 := List.find?_some hf
    simp only [beq_iff_eq] at h2
    obtain ⟨a, b⟩ := p
    simp only at h h2
    subst h h2
    exact h1
theorem findI_of_mem {L : List InstV} (hn : L.Pairwise fun p q => p.1 ≠ q.1) {i : Is} {v : Value} (h : (i, v) ∈ L) : findI L i = some v := by
  induction L with
  | nil => cases h
  | cons p L ih =>
    obtain ⟨h1, h2⟩ := List.pairwise_cons.1 hn
    unfold findI
    rcases List.mem_cons.1 h with h | h
    · subst h; simp
    · rw [List.find?_cons_of_neg (by simpa using h1 _ h)]
      exact ih h2 h
theorem findI_none {L : List InstV} {i : Is} (h : findI L i = none) : ∀ p ∈ L, p.1 ≠ i := by
  intro p hp he
  unfold findI at h
  rw [Option.map_eq_none_iff, List.find?_eq_none] at h
  exact h p hp (by simp [he])
theorem drop_none {L : List InstV} {i : Is} (h : findI L i = none) : dropI i L = L := by
  unfold dropI
  rw [List.filter_eq_self]
  intro p hp
  have := findI_none h p hp
  simp [this]
theorem drop_some {L : List InstV} (hn : L.Pairwise fun p q => p.1 ≠ q.1) {i : Is} {v : Value} (h : findI L i = some v) : (dropI i L).length + 1 = L.length := by
  induction L with
  | nil => cases h
  | cons p L ih =>
    obtain ⟨h1, h2⟩ := List.pairwise_cons.1 hn
    by_cases hp : p.1 = i
    · have e : dropI i (p :: L) = L := by
        unfold dropI
        rw [List.filter_cons_of_neg (by simp [hp]), List.filter_eq_self]
        intro q hq
        have := h1 q hq
        rw [hp] at this
        simp [Ne.symm this]
      rw [e]; rfl
    · have e : dropI i (p :: L) = p :: dropI i L := by
        unfold dropI
        rw [List.filter_cons_of_pos (by simp [hp])]
      have hf : findI L i = some v := by
        unfold findI at h ⊢
        rw [List.find?_cons_of_neg (by simpa using hp)] at h
        exact h
      rw [e, List.length_cons, List.length_cons, ih h2 hf]
theorem RepI.nil : RepI (.map []) [] := ⟨Maps.tidy_empty, List.Pairwise.nil, fun p hp => (List.not_mem_nil hp).elim, rfl, fun i hi z => rfl, fun i hi => rfl⟩
theorem RepI.put {D : DataW Value} {L : List InstV} (h : RepI D L) {i : Is} (hi : inI i) (v : Value) : RepI (D.put (klI i) (.held v)) (putI' i v L) := by
  have hne : ∀ {j : Is}, inI j → j ≠ i → klI j ≠ klI i := fun hj h1 h2 => h1 (klI_inj hj hi h2)
  refine ⟨h.tidy.put (klI_key i) _, ?_, fun p hp => ?_, ?_, fun j hj z => ?_, fun j hj => ?_⟩
  · refine List.pairwise_cons.2 ⟨fun q hq => ?_, h.nodup.filter _⟩
    have := (List.mem_filter.1 hq).2
    simp only [Bool.not_eq_true', beq_eq_false_iff_ne, ne_eq] at this
    exact fun e => this e.symm
  · rcases List.mem_cons.1 hp with rfl | hp
    · exact hi
    · exact h.wf p (List.mem_filter.1 hp).1
  · rw [Maps.size_put h.tidy, h.has i hi, h.size]
    show _ = (dropI i L).length + 1
    cases hf : findI L i with
    | none => rw [drop_none hf]; simp
    | some v' => have := drop_some h.nodup hf; simp; omega
  · by_cases e : j = i
    · subst e
      rw [Maps.atKey_put_same h.tidy.isMap (klI_key j), findI_put_same]; rfl
    · rw [Maps.atKey_put_other (hne hj e), h.at_ j hj, findI_put_other L v e]
  · by_cases e : j = i
    · subst e
      rw [Maps.has_put_same h.tidy.isMap (klI_key j), findI_put_same]; rfl
    · rw [Maps.has_put_other (hne hj e), h.has j hj, findI_put_other L v e]
theorem RepI.del {D : DataW Value} {L : List InstV} (h : RepI D L) {i : Is} (hi : inI i) : RepI (D.del (klI i)) (dropI i L) := by
  have hne : ∀ {j : Is}, inI j → j ≠ i → klI j ≠ klI i := fun hj h1 h2 => h1 (klI_inj hj hi h2)
  refine ⟨h.tidy.del _, h.nodup.filter _, fun p hp => h.wf p (List.mem_filter.1 hp).1, ?_, fun j hj z => ?_, fun j hj => ?_⟩
  · have h1 := Maps.size_del (k := klI i) h.tidy
    rw [h.has i hi, h.size] at h1
    cases hf : findI L i with
    | none => rw [drop_none hf]; rw [hf] at h1; simpa using h1
    | some v' => have := drop_some h.nodup hf; rw [hf] at h1; simp at h1; omega
  · by_cases e : j = i
    · subst e
      rw [Maps.atKey_del_same, findI_drop_same]; rfl
    · rw [Maps.atKey_del_other (hne hj e), h.at_ j hj, findI_drop_other L e]
  · by_cases e : j = i
    · subst e
      rw [Maps.has_del_same, findI_drop_same]; rfl
    · rw [Maps.has_del_other (hne hj e), h.has j hj, findI_drop_other L e]
/-- a map by Inst in block b -/
def MapK (w : World) (b : Nat) (L : List InstV) : Prop := ∃ n D, n < maxLen ∧ w.ownsMap Tryz.prog 25 VR b n D ∧ RepI D L
section
variable {F : Nat → Prop} {w w' : World} {b : Nat} {L : List InstV}
theorem MapK.lt (h : MapK w b L) : b < w.heap.size := by obtain ⟨n, D, _, h, _⟩ := h; exact h.lt
theorem MapK.nodup (h : MapK w b L) : L.Pairwise fun p q => p.1 ≠ q.1 := by obtain ⟨n, D, _, _, h⟩ := h; exact h.nodup
theorem MapK.wf (h : MapK w b L) : ∀ p ∈ L, inI p.1 := by obtain ⟨n, D, _, _, h⟩ := h; exact h.wf
theorem MapK.mod (h : MapK w b L) (hm : Mod F w w') (hb : ¬ F b) : MapK w' b L := by
  obtain ⟨n, D, hn, ⟨es, clock, h1, h2⟩, h3⟩ := h
  exact ⟨n, D, hn, ⟨es, clock, (hm.block b (Array.getElem?_eq_some_iff.1 h1).1 hb).trans h1, h2⟩, h3⟩
theorem MapK.alloc (h : MapK w b L) (o : Obj) : MapK (w.alloc o) b L := by obtain ⟨n, D, hn, h1, h3⟩ := h; exact ⟨n, D, hn, h1.alloc o, h3⟩
theorem MapK.made (w : World) : MapK (w.alloc (.map #[] 0)) w.heap.size [] := ⟨0, _, by decide, World.ownsMap_made _ _ _ _, RepI.nil⟩
theorem MapK.tight (h : MapK w b L) : ∃ D, w.ownsMap Tryz.prog 25 VR b L.length D ∧ RepI D L := by
  obtain ⟨n, D, hn, ⟨es, clock, h1, h2, h3, h4⟩, h5⟩ := h
  refine ⟨D, ⟨es, clock, h1, h2, ?_, h4⟩, h5⟩
  have := congrArg Maps.size h4
  rw [h5.size] at this
  rw [this]; simp [Maps.size, length_sorted]
theorem MapK.store_run (h : MapK w b L) {t e : TypeId} (ht : Tryz.prog.underlying t = some (.map 25 e)) (hroom : L.length + 1 < maxLen) {i : Is} (hi : inI i) (val : Value) :
    ∃ w', (Instr.mapUpdate t (.map (some b)) (isVal i) val).run Tryz.prog w = .ok () w' ∧ MapK w' b (putI' i val L) ∧ Mod (· = b) w w' ∧ w'.heap.size = w.heap.size := by
  obtain ⟨D, h1, h2⟩ := h.tight
  obtain ⟨w', hrun, h3, h4⟩ := h1.store instKeyed ht (by omega) (klI_of hi) (d := .held val) (ps := []) (show VR val = some (.held val, []) from rfl)
  refine ⟨w', hrun, ⟨_, _, hroom, h3, h2.put hi val⟩, (Mod.of_grown h4.grown).mono fun i hi => by cases hi; rfl, ?_⟩
  obtain ⟨es, c, es', c', _, rfl⟩ := h4
  simp [ChangeMaps.setBlock]
theorem MapK.look_run (h : MapK w b L) {t e : TypeId} (ht : Tryz.prog.underlying t = some (.map 25 e)) {z : Value} (hz : (zeroValue e).run Tryz.prog w = .ok z w) {i : Is} (hi : inI i) :
    (Instr.lookup t (.map (some b)) (isVal i) true).run Tryz.prog w = .ok (.tuple #[(findI L i).getD z, .bool (findI L i).isSome]) w := by
  obtain ⟨D, h1, h2⟩ := h.tight
  obtain ⟨v, ps, hrun, hv⟩ := h1.look_ok instKeyed ht hz (zd := .held z) (zp := []) rfl (klI_of hi)
  rw [h2.at_ i hi] at hv
  have : v = (findI L i).getD z := by simp [VR] at hv; exact hv.1
  rw [this, h2.has i hi] at hrun
  exact hrun
theorem MapK.len_run (h : MapK w b L) {t e : TypeId} (ht : Tryz.prog.underlying t = some (.map 25 e)) (ty : TypeId) : (Builtin.len_ #[t] ty #[.map (some b)]).run Tryz.prog w = .ok (.int .i64 (L.length : Nat)) w := by
  obtain ⟨D, h1, h2⟩ := h.tight
  have := h1.len ht ty
  rw [h2.size] at this
  exact this
theorem MapK.drop_run (h : MapK w b L) {t e : TypeId} (ht : Tryz.prog.underlying t = some (.map 25 e)) {i : Is} (hi : inI i) (ty : TypeId) :
    ∃ w', (Builtin.delete_ #[t, 25] ty #[.map (some b), isVal i]).run Tryz.prog w = .ok (.tuple #[]) w' ∧ MapK w' b (dropI i L) ∧ Mod (· = b) w w' ∧ w'.heap.size = w.heap.size := by
  obtain ⟨n, D, hn, h1, h2⟩ := h
  obtain ⟨w', hrun, h3, h4⟩ := h1.drop instKeyed ht (klI_of hi) ty
  refine ⟨w', hrun, ⟨n, _, hn, h3, h2.del hi⟩, (Mod.of_grown h4.grown).mono fun i hi => by cases hi; rfl, ?_⟩
  obtain ⟨es, c, es', c', _, rfl⟩ := h4
  simp [ChangeMaps.setBlock]
end
/-- an iterator over a map: R: what is still to come -/
def ItK (w : World) (b r : Nat) (L R : List InstV) : Prop := ∃ n D left cnt, w.ranges Tryz.prog 25 VR b r n D left cnt ∧ RepI D L ∧ R = L.filter fun p => left (klI p.1)
theorem ItK.mod {F : Nat → Prop} {w w' : World} {b r : Nat} {L R : List InstV} (h : ItK w b r L R) (hm : Mod F w w') (hb : ¬ F b) (hr : ¬ F r) : ItK w' b r L R := by
  obtain ⟨n, D, left, cnt, ⟨es, clock, since, seen, c0, h1, h2, h3, h4, h5, h6⟩, h7, h8⟩ := h
  have lb : b < w.heap.size := (Array.getElem?_eq_some_iff.1 h1).1
  have lr : r < w.heap.size := (Array.getElem?_eq_some_iff.1 h5).1
  exact ⟨n, D, left, cnt, ⟨es, clock, since, seen, c0, (hm.block b lb hb).trans h1, h2, h3, h4, (hm.block r lr hr).trans h5, h6⟩, h7, h8⟩
theorem ItK.next {w : World} {b r : Nat} {L R : List InstV} (h : ItK w b r L R) (ty : TypeId) :
    (R = [] ∧ (Instr.next (.pointer (some ⟨r, 0, none⟩)) false ty).run Tryz.prog w = .ok (.tuple #[.bool false]) w) ∨
    ∃ (p : InstV) (w' : World), p ∈ R ∧ p ∈ L ∧ ItK w' b r L (dropI p.1 R) ∧ ((dropI p.1 R).length < R.length ∧ w'.rangeLeft b r < w.rangeLeft b r) ∧ Mod (· = r) w w' ∧ w'.heap.size = w.heap.size ∧
      (Instr.next (.pointer (some ⟨r, 0, none⟩)) false ty).run Tryz.prog w = .ok (.tuple #[.bool true, isVal p.1, p.2]) w' ∧
      (Instr.entry (.pointer (some ⟨r, 0, none⟩))).run Tryz.prog w' = .ok (.tuple #[isVal p.1, p.2]) w' := by
  obtain ⟨n, D, left, cnt, hr, h2, h3⟩ := h
  rcases hr.next instKeyed ty with ⟨h0, hl, hrun⟩ | ⟨key, v, kl, y, w', cnt', hkey, hlk, hv, hat, hrun, hrg, hlt, hgr, hsz, hen⟩
  · refine .inl ⟨?_, hrun⟩
    rw [h3, List.filter_eq_nil_iff]
    intro p _
    rw [hl]; simp
  · right
    obtain ⟨i, rfl, hi, rfl⟩ := klI_inv hkey
    have hy : y = (.held v, []) := by unfold VR at hv; exact (Option.some.inj hv).symm
    subst hy
    have hfs : (findI L i).isSome = true := by
      rw [← h2.has i hi]
      cases hh : Maps.has D (klI i) with
      | true => rfl
      | false =>
        have := Maps.atKey_of_not_has hh (.held (.bool true))
        have h5 := Maps.atKey_of_not_has hh (.held (.bool false))
        rw [hat] at this h5
        rw [this] at h5
        cases h5
    obtain ⟨v', hf⟩ := Option.isSome_iff_exists.1 hfs
    have hvv : v' = v := by
      have h5 := h2.at_ i hi v
      rw [hat, hf] at h5
      simpa using h5.symm
    subst hvv
    have hm := findI_mem hf
    have hmR : (i, v') ∈ R := by rw [h3]; exact List.mem_filter.2 ⟨hm, hlk⟩
    have hR' : dropI i R = L.filter fun p => (left (klI p.1) && !(klI p.1).sameKey (klI i)) := by
      rw [h3]
      unfold dropI
      rw [List.filter_filter]
      refine List.filter_congr fun p hp => ?_
      by_cases e : p.1 = i
      · rw [e]
        have : (klI i).sameKey (klI i) = true := WideAt.sameKey_self (klI_key i)
        simp [this]
      · have : (klI p.1).sameKey (klI i) = false := Maps.sameKey_ne (fun h => e (klI_inj (h2.wf p hp) hi h))
        have e2 : (p.1 == i) = false := by simpa using e
        rw [this, e2]
        simp
    have hRn : R.Pairwise fun p q => p.1 ≠ q.1 := by rw [h3]; exact h2.nodup.filter _
    refine ⟨(i, v'), w', hmR, hm, ⟨n, D, _, cnt', hrg, h2, hR'⟩, ?_, (Mod.of_grown hgr).mono fun k hk => by cases hk; rfl, hsz, hrun, hen⟩
    have := drop_some hRn (findI_of_mem hRn hmR)
    refine ⟨?_, by rw [hrg.left_eq, hr.left_eq]; exact hlt⟩
    show (dropI i R).length < R.length
    omega
end Go.Proofs.YtdnbclhidpkpgaaGreat
/-
  Numbers without their sign. No condition.
-/
namespace Go.Proofs.YtdnbclhidpkpgaaGreat
set_option linter.unusedVariables false
set_option linter.unusedSimpArgs false
open Go.RowKit
def zig (n : Int) : Nat := if 0 ≤ n then (2 * n).toNat else (-2 * n - 1).toNat
def unzig (m : Nat) : Int := if m % 2 = 0 then (m / 2 : Nat) else -((m / 2 : Nat) : Int) - 1
theorem unzig_zig (n : Int) : unzig (zig n) = n := by
  unfold unzig zig
  by_cases h : 0 ≤ n
  · rw [if_pos h, if_pos (by omega)]; omega
  · rw [if_neg h, if_neg (by omega)]; omega
theorem zig_unzig (m : Nat) : zig (unzig m) = m := by
  unfold unzig zig
  by_cases h : m % 2 = 0
  · rw [if_pos h, if_pos (by omega)]; omega
  · rw [if_neg h, if_neg (by omega)]; omega
theorem zig_lt {n : Int} (h1 : -9223372036854775808 ≤ n) (h2 : n ≤ 9223372036854775807) : zig n < 18446744073709551616 := by
  unfold zig; split <;> omega
theorem unzig_in {m : Nat} (h : m < 18446744073709551616) : -9223372036854775808 ≤ unzig m ∧ unzig m ≤ 9223372036854775807 := by
  unfold unzig; split <;> omega

theorem bx64 (a b : Nat) (ha : a < 18446744073709551616) (hb : b < 18446744073709551616) : bits .xor .u64 (a : Int) (b : Int) = ((a ^^^ b : Nat) : Int) := by
  have hx : a ^^^ b < 2 ^ 64 := Nat.xor_lt_two_pow (by omega) (by omega)
  show IntKind.u64.wrap ((BitVec.ofInt 64 (a : Int) ^^^ BitVec.ofInt 64 (b : Int)).toNat : Int) = _
  rw [BitVec.toNat_xor, ofInt_nat 64 a (by omega), ofInt_nat 64 b (by omega), IntKind.wrap_u64]
  omega
theorem not64 (q : Nat) (hq : q < 18446744073709551616) : q ^^^ 18446744073709551615 = 18446744073709551615 - q := by
  have h := BitVec.toNat_not (x := BitVec.ofNat 64 q)
  rw [BitVec.not_def, BitVec.toNat_xor, BitVec.toNat_ofNat, Nat.mod_eq_of_lt (by omega : q < 2 ^ 64)] at h
  have e : (BitVec.allOnes 64).toNat = 18446744073709551615 := by decide
  rw [e, Nat.xor_comm] at h
  exact h
theorem fold_bits (n : Int) (h1 : -9223372036854775808 ≤ n) (h2 : n ≤ 9223372036854775807) : bits .xor .u64 (IntKind.u64.wrap (IntKind.u64.wrap n * 2)) (IntKind.u64.wrap (n / 9223372036854775808)) = (zig n : Int) := by
  by_cases h : 0 ≤ n
  · have e1 : IntKind.u64.wrap (IntKind.u64.wrap n * 2) = (((2 * n).toNat : Nat) : Int) := by simp only [IntKind.wrap_u64]; omega
    have e2 : IntKind.u64.wrap (n / 9223372036854775808) = ((0 : Nat) : Int) := by simp only [IntKind.wrap_u64]; omega
    rw [e1, e2, bx64 _ _ (by omega) (by omega), Nat.xor_zero, zig, if_pos h]
  · have e1 : IntKind.u64.wrap (IntKind.u64.wrap n * 2) = (((2 * n + 18446744073709551616).toNat : Nat) : Int) := by simp only [IntKind.wrap_u64]; omega
    have e2 : IntKind.u64.wrap (n / 9223372036854775808) = ((18446744073709551615 : Nat) : Int) := by simp only [IntKind.wrap_u64]; omega
    rw [e1, e2, bx64 _ _ (by omega) (by omega), not64 _ (by omega), zig, if_neg h]
    omega
theorem and_one (m : Nat) (h : m < 18446744073709551616) : bits .and .u64 (m : Int) 1 = ((m % 2 : Nat) : Int) := by
  have e : m &&& 1 = m % 2 := Nat.and_one_is_mod m
  show IntKind.u64.wrap ((BitVec.ofInt 64 (m : Int) &&& BitVec.ofInt 64 ((1 : Nat) : Int)).toNat : Int) = _
  rw [BitVec.toNat_and, ofInt_nat 64 m (by omega), ofInt_nat 64 1 (by omega), e, IntKind.wrap_u64]
  omega
theorem unfold_bits (m : Nat) (h : m < 18446744073709551616) : bits .xor .i64 ((m : Int) / 2) (wrap64 (-wrap64 (bits .and .u64 (m : Int) 1))) = unzig m := by
  rw [and_one m h]
  have e0 : ((m : Int) / 2) = ((m / 2 : Nat) : Int) := by omega
  rw [e0, unzig]
  by_cases h2 : m % 2 = 0
  · rw [if_pos h2, h2, show wrap64 (-wrap64 ((0 : Nat) : Int)) = ((0 : Nat) : Int) by kernel_rfl]
    show IntKind.i64.wrap ((BitVec.ofInt 64 ((m / 2 : Nat) : Int) ^^^ BitVec.ofInt 64 ((0 : Nat) : Int)).toNat : Int) = _
    rw [BitVec.toNat_xor, ofInt_nat 64 (m / 2) (by omega), ofInt_nat 64 0 (by omega), Nat.xor_zero, IntKind.wrap_i64]
    omega
  · rw [if_neg h2, show m % 2 = 1 by omega, show wrap64 (-wrap64 ((1 : Nat) : Int)) = (-1 : Int) by kernel_rfl]
    show IntKind.i64.wrap ((BitVec.ofInt 64 ((m / 2 : Nat) : Int) ^^^ BitVec.ofInt 64 (-1 : Int)).toNat : Int) = _
    rw [BitVec.toNat_xor, ofInt_nat 64 (m / 2) (by omega), show (BitVec.ofInt 64 (-1)).toNat = 18446744073709551615 by decide, not64 _ (by omega), IntKind.wrap_i64]
    omega

theorem fold_ok (w : World) (n : Int) (h1 : -9223372036854775808 ≤ n) (h2 : n ≤ 9223372036854775807) : Calls Tryz.prog 102 #[.int .i64 n] w fun e w' => e = .returned (.int .u64 (zig n : Nat)) ∧ w = w' := by
  have H := Lib.hid (fold_bits n h1 h2)
  go_enter Tryz.func102, Tryz.ntmps102
  go_wp2
  go_ret
  refine ⟨?_, rfl⟩
  rw [← H.out]
  rfl
theorem unfold_ok (w : World) (m : Nat) (h1 : m < 18446744073709551616) : Calls Tryz.prog 111 #[.int .u64 (m : Int)] w fun e w' => e = .returned (.int .i64 (unzig m)) ∧ w = w' := by
  have H := Lib.hid (unfold_bits m h1)
  go_enter Tryz.func111, Tryz.ntmps111
  go_wp2
  go_ret
  refine ⟨?_, rfl⟩
  rw [← H.out]
  rfl
end Go.Proofs.YtdnbclhidpkpgaaGreat
/-
  The contract of pack.Num. No condition.
-/
namespace Go.Proofs.YtdnbclhidpkpgaaGreat
set_option linter.unusedVariables false
set_option linter.unusedSimpArgs false
open Go.RowKit
theorem or128 : ∀ x : Nat, x < 256 → x ||| 128 = x % 128 + 128 := by decide +kernel
theorem bor8 (q : Nat) : bits .or .u8 ((q : Int) % 256) 128 = ((q % 128 + 128 : Nat) : Int) := by
  have e0 : (q : Int) % 256 = ((q % 256 : Nat) : Int) := by omega
  have e1 := or128 (q % 256) (by omega)
  rw [e0]
  show IntKind.u8.wrap ((BitVec.ofInt 8 ((q % 256 : Nat) : Int) ||| BitVec.ofInt 8 ((128 : Nat) : Int)).toNat : Int) = _
  rw [BitVec.toNat_or, ofInt_nat 8 (q % 256) (by omega), ofInt_nat 8 128 (by omega), e1, IntKind.wrap_u8]
  omega
theorem vbF_len : ∀ (f m : Nat), (vbF f m).length ≤ f := by
  intro f
  induction f with
  | zero => intro m; exact Nat.le_refl _
  | succ f ih => intro m; simp only [vbF]; split; simp; simp only [List.length_cons]; have := ih (m / 128); omega
theorem vb_len (m : Nat) : (vb m).length ≤ 10 := vbF_len 10 m
theorem vb_pos (m : Nat) : 0 < (vb m).length := by unfold vb vbF; split <;> simp
def NumOk (t q : Nat) : Prop := q < 2 ^ (64 - 7 * t)
def NumRel (w : World) (M : Nat) (q : Nat) (v : Value) (wr : World) : Prop :=
  ∃ A t c pre, v = .slice A t c ∧ OwB wr 5 A t c pre ∧ Fresh w A ∧ Mod none_ w wr ∧ pre ++ vbF (10 - t) q = vb M ∧ NumOk t q ∧ t ≤ 9
theorem num_step {t q : Nat} (ht : t ≤ 9) (hq : NumOk t q) (h : 128 ≤ q) : t ≤ 8 ∧ NumOk (t + 1) (q / 128) ∧ vbF (10 - t) q = by_ (q % 128 + 128) :: vbF (10 - (t + 1)) (q / 128) := by
  unfold NumOk at hq ⊢
  have h8 : t ≤ 8 := by
    rcases Nat.lt_or_ge t 9 with h1 | h1
    · omega
    · have : t = 9 := by omega
      subst this
      simp at hq; omega
  have e : 64 - 7 * t = 64 - 7 * (t + 1) + 7 := by omega
  rw [e, Nat.pow_add] at hq
  refine ⟨h8, Nat.div_lt_of_lt_mul (by rw [Nat.mul_comm]; exact hq), ?_⟩
  rw [show 10 - t = (10 - (t + 1)) + 1 by omega]
  simp only [vbF]
  rw [if_neg (by omega)]

theorem by_hi (q : Nat) : ((q : Int) % 128 + 128) = ((by_ (q % 128 + 128)).toNat : Int) := by rw [by_toNat]; omega
theorem by_lo {q : Nat} (h : q < 128) : (q : Int) = ((by_ q).toNat : Int) := by rw [by_toNat]; omega
theorem vbF_last {f q : Nat} (hf : 0 < f) (h : q < 128) : vbF f q = [by_ q] := by
  cases f with
  | zero => omega
  | succ f => simp only [vbF]; rw [if_pos h]
def NumPost (w : World) (n : Int) (e : Ending) (w' : World) : Prop := ∃ A k c, e = .returned (.slice A k c) ∧ OwB w' 5 A k c (vb (zig n)) ∧ Fresh w A ∧ Mod none_ w w' ∧ k ≤ 10
set_option maxRecDepth 100000 in
set_option maxHeartbeats 1000000 in
theorem num_ok (w : World) (n : Int) (h1 : -9223372036854775808 ≤ n) (h2 : n ≤ 9223372036854775807) : Calls Tryz.prog 81 #[.int .i64 n] w (NumPost w n) := by
  have hz := zig_lt h1 h2
  go_enter Tryz.func81, Tryz.ntmps81
  go_wp2_with fail
  refine (fold_ok _ n h1 h2).mono ?_
  rintro e w1 ⟨rfl, rfl⟩
  obtain ⟨M, hM⟩ : ∃ M, M = zig n := ⟨_, rfl⟩
  rw [← hM] at hz ⊢
  replace hM := Lib.hid hM
  go_wp2_with fail
  go_loopw [3, 4] (fun v x wr => ∃ q : Nat, x = .int .u64 q ∧ NumRel w M q v wr) (fun _ x _ => (intOf x).toNat)
  case atStart => exact ⟨M, rfl, none, 0, 0, [], rfl, Ow.nil _ _ _, (fun _ h => by cases h), Mod.refl _ w, rfl, by unfold NumOk; simpa using hz, by omega⟩
  case round =>
    obtain ⟨q, rfl, A, t, c, pre, rfl, ho, hf, hm, hpre, hq, ht⟩ := hrel
    have hb := bor8 q
    have hq64 : q < 18446744073709551616 := Nat.lt_of_lt_of_le hq (Nat.pow_le_pow_right (show 0 < 2 by omega) (show 64 - 7 * t ≤ 64 by omega))
    replace hq64 := Lib.hid hq64
    replace hz := Lib.hid hz
    replace ho := Lib.hid ho
    replace hf := Lib.hid hf
    replace hm := Lib.hid hm
    replace hpre := Lib.hid hpre
    by_cases hl : 128 ≤ q
    · obtain ⟨g1, g2, g3⟩ := num_step ht hq hl
      replace hq := Lib.hid hq
      replace g2 := Lib.hid g2
      replace g3 := Lib.hid g3
      go_wp2_with (at_builtin; refine app8 rfl (.tmp 11) (.tmp 15) rfl rfl (ho.out.mod0 ((Mod.refl none_ _).alloc _)) rfl (rdb_one _ _ (by_hi q)) (by omega) ?_; intro A' c' w' ho' hm' hA'; replace ho' := Lib.hid ho'; replace hm' := Lib.hid hm'; replace hA' := Lib.hid hA')
      go_roundw
      case rel =>
        refine ⟨q / 128, rfl, A', t + 1, c', pre ++ [by_ (q % 128 + 128)], rfl, ho'.out, Fresh.app hf.out (hm.out.alloc _).size hA'.out, (hm.out.alloc _).app hf.out hm'.out, ?_, g2.out, by omega⟩
        rw [← hpre.out, g3.out, List.append_assoc]; rfl
      case measure => simp [intOf]; omega
    · have hv : Hid (pre ++ [by_ q] = vb M) := by
        have := hpre.out
        rw [vbF_last (by omega) (by omega)] at this
        exact Lib.hid this
      go_wp2_with (at_builtin; go_loud (refine app8 rfl (.tmp 17) (.tmp 20) rfl rfl (ho.out.mod0 ((Mod.refl none_ _).alloc _)) rfl (rdb_one _ _ (by_lo (by omega))) (by omega) ?_; intro A' c' w' ho' hm' hA'; replace ho' := Lib.hid ho'; replace hm' := Lib.hid hm'; replace hA' := Lib.hid hA'))
      go_ret
      have h9 := ho'.out
      rw [hv.out, hM.out] at h9
      exact ⟨A', t + 1, c', rfl, h9, Fresh.app hf.out (hm.out.alloc _).size hA'.out, (hm.out.alloc _).app hf.out hm'.out, by omega⟩
end Go.Proofs.YtdnbclhidpkpgaaGreat
/-
  A reader of bytes: what its two cells and its rest hold; the contracts of fail, Left and Done. No condition.
-/
namespace Go.Proofs.YtdnbclhidpkpgaaGreat
set_option linter.unusedVariables false
set_option linter.unusedSimpArgs false
open Go.RowKit
/-- The reader in block g has the bytes l left, and the error e; its rest lies in block B. -/
def Rdr (w : World) (g B : Nat) (l : List UInt8) (e : Nat) : Prop :=
  ∃ A n c, Blk w g 111 #[.slice A n c, .int .i64 (e : Int)] ∧ RdB w A n l ∧ n ≤ c ∧ c ≤ 9223372036854775807 ∧ (∀ k, fp A k → k = B) ∧ g ≠ B
def only (g : Nat) : Nat → Prop := fun k => k = g
theorem Rdr.mod {w w' : World} {F : Nat → Prop} {g B : Nat} {l : List UInt8} {e : Nat} (h : Rdr w g B l e) (hm : Mod F w w') (h1 : ¬ F g) (h2 : ¬ F B) : Rdr w' g B l e := by
  obtain ⟨A, n, c, a1, a2, a3, a4, a5, a6⟩ := h
  exact ⟨A, n, c, a1.mod hm h1, a2.mod hm (fun k hk => by rw [a5 k hk]; exact h2), a3, a4, a5, a6⟩
theorem Rdr.mod0 {w w' : World} {g B : Nat} {l : List UInt8} {e : Nat} (h : Rdr w g B l e) (hm : Mod none_ w w') : Rdr w' g B l e := h.mod hm (fun hh => hh) (fun hh => hh)
theorem Rdr.empty {w : World} {g B : Nat} {e : Nat} (h : Blk w g 111 #[.slice none 0 0, .int .i64 (e : Int)]) (hB : g ≠ B) : Rdr w g B [] e :=
  ⟨none, 0, 0, h, Rd.none_, by omega, by omega, fun k hk => (by obtain ⟨a, ha, _⟩ := hk; cases ha), hB⟩
theorem Rdr.lt {w : World} {g B : Nat} {l : List UInt8} {e : Nat} (h : Rdr w g B l e) : g < w.heap.size := by
  obtain ⟨A, n, c, a1, _⟩ := h
  exact a1.lt
theorem Blk.two {w : World} {g : Nat} {t : TypeId} {a b : Value} (h : Blk w g t #[a, b]) : w.cell? ⟨g, 0, none⟩ = some a ∧ w.cell? ⟨g, 1, none⟩ = some b ∧ w.frozen? ⟨g, 0, none⟩ = false ∧ w.frozen? ⟨g, 1, none⟩ = false :=
  ⟨h.cell_ rfl, h.cell_ rfl, h.frozen 0, h.frozen 1⟩
theorem Mod.refl_only (w : World) (g : Nat) : Mod (only g) w w := Mod.refl _ w
theorem Mod.set_only {w w' : World} {g : Nat} (h : Mod (only g) w w') (o : Nat) (u : Value) : Mod (only g) w (w'.setCell ⟨g, o, none⟩ u) := h.setCell (p := ⟨g, o, none⟩) (.inl rfl) u

def FailPost (w : World) (g B e : Nat) (en : Ending) (w' : World) : Prop := en = .returned (.int .i64 (e : Int)) ∧ Rdr w' g B [] e ∧ Mod (only g) w w'
set_option maxRecDepth 100000 in
theorem fail_ok (w : World) (g B e : Nat) (a b : Value) (h : Blk w g 111 #[a, b]) (hB : g ≠ B) : Calls Tryz.prog 72 #[.pointer (some ⟨g, 0, none⟩), .int .i64 (e : Int)] w (FailPost w g B e) := by
  obtain ⟨h1, h2, h3, h4⟩ := h.two
  replace h := Lib.hid h
  go_enter Tryz.func72, Tryz.ntmps72
  go_wp2
  go_ret
  exact ⟨rfl, Rdr.empty ((h.out.set_ 0 _).set_ 1 _) hB, ((Mod.refl _ w).set_only 0 _).set_only 1 _⟩
/-- What Done tells. -/
def dn (l : List UInt8) (e : Nat) : Nat := if e ≠ 0 then e else if 0 < l.length then 3 else 0
def DonePost (w : World) (g : Nat) (l : List UInt8) (e : Nat) (en : Ending) (w' : World) : Prop := en = .returned (.int .i64 (dn l e : Nat)) ∧ Mod (only g) w w'
set_option maxRecDepth 100000 in
theorem done_ok (w : World) (g B e : Nat) (l : List UInt8) (h : Rdr w g B l e) : Calls Tryz.prog 38 #[.pointer (some ⟨g, 0, none⟩)] w (DonePost w g l e) := by
  obtain ⟨A, n, c, hb, hr, _, _, _, hB⟩ := h
  obtain ⟨h1, h2, h3, h4⟩ := hb.two
  have hl := hr.len
  subst hl
  replace hr := Lib.hid hr
  replace hb := Lib.hid hb
  by_cases he : e = 0
  · subst he
    by_cases hn : 0 < l.length
    · go_enter Tryz.func38, Tryz.ntmps38
      go_wp2_with fail
      refine (fail_ok _ g B 3 _ _ hb.out hB).mono ?_
      rintro en w1 ⟨rfl, _, hm⟩
      go_wp2
      go_ret
      exact ⟨by simp [dn, hn], hm⟩
    · go_enter Tryz.func38, Tryz.ntmps38
      go_wp2
      go_ret
      exact ⟨by simp [dn, hn], Mod.refl _ w⟩
  · have he1 : ((e : Int) != 0) = true := by simp; omega
    go_enter Tryz.func38, Tryz.ntmps38
    go_wp2
    go_ret
    exact ⟨by simp [dn, he], Mod.refl _ w⟩
set_option maxRecDepth 100000 in
theorem done_nil (w : World) : Calls Tryz.prog 38 #[.pointer none] w fun en w' => en = .returned (.int .i64 1) ∧ w = w' := by
  go_enter Tryz.func38, Tryz.ntmps38
  go_wp2
  go_ret
  exact ⟨rfl, rfl⟩
end Go.Proofs.YtdnbclhidpkpgaaGreat
/-
  Variables of structs, known whole ('Blk'): loads and stores of parts; results that lie in one. No condition.
-/
namespace Go.Proofs.YtdnbclhidpkpgaaGreat
set_option linter.unusedVariables false
set_option linter.unusedSimpArgs false
open Go.RowKit
theorem Blk.range {w : World} {g : Nat} {t : TypeId} {cs : Array Value} (h : Blk w g t cs) (o : Nat) (vs : List Value) (hv : (cs.toList.drop o).take vs.length = vs) : w.rangeAt g o vs := fun j v hj => by
  refine h.cell_ ?_
  have hl : j < vs.length := by
    rcases Nat.lt_or_ge j vs.length with h1 | h1
    · exact h1
    · rw [List.getElem?_eq_none h1] at hj; cases hj
  rw [← hv, List.getElem?_take, if_pos hl, List.getElem?_drop] at hj
  simpa using hj
theorem Blk.there {w : World} {g : Nat} {t : TypeId} {cs : Array Value} (h : Blk w g t cs) (o n : Nat) (hn : o + n ≤ cs.size) : w.there g o n := fun j hj =>
  ⟨by rw [h.cell, Array.getElem?_eq_getElem (by omega)]; rfl, h.frozen _⟩
def setL (cs : Array Value) (o : Nat) : List Value → Array Value
  | [] => cs
  | v :: vs => setL (cs.setIfInBounds o v) (o + 1) vs
theorem Blk.setCells {g : Nat} {t : TypeId} : ∀ (vs : List Value) (w : World) (cs : Array Value) (o : Nat), Blk w g t cs → Blk (w.setCells g o vs) g t (setL cs o vs)
  | [], _, _, _, h => h
  | v :: vs, w, cs, o, h => Blk.setCells vs _ _ (o + 1) (h.set_ o v)
theorem Mod.setCells {F : Nat → Prop} {g : Nat} : ∀ (vs : List Value) (w w' : World) (o : Nat), Mod F w w' → F g → Mod F w (w'.setCells g o vs)
  | [], _, _, _, h, _ => h
  | v :: vs, w, w', o, h, hg => Mod.setCells vs w _ (o + 1) (h.setCell (p := ⟨g, o, none⟩) (.inl hg) v) hg
theorem setL_toList : ∀ (vs : List Value) (cs : Array Value) (o : Nat), o + vs.length ≤ cs.size → (setL cs o vs).toList = cs.toList.take o ++ (vs ++ cs.toList.drop (o + vs.length))
  | [], cs, o, _ => by simp [setL]
  | v :: vs, cs, o, h => by
    simp only [List.length_cons] at h
    rw [setL, setL_toList vs _ (o + 1) (by simp only [Array.size_setIfInBounds]; omega)]
    apply List.ext_getElem?
    intro i
    simp only [Array.toList_setIfInBounds, List.getElem?_append, List.length_take, List.length_set, Array.length_toList, List.getElem?_take, List.getElem?_set, List.getElem?_drop, List.length_cons, List.cons_append]
    have h1 : min (o + 1) cs.size = o + 1 := by omega
    have h2 : min o cs.size = o := by omega
    rw [h1, h2]
    by_cases c1 : i < o
    · rw [if_pos (by omega), if_pos (by omega), if_neg (by omega), if_pos c1, if_pos c1]
    · by_cases c2 : i = o
      · subst c2
        rw [if_pos (by omega), if_pos (by omega), if_pos rfl, if_pos (by omega), if_neg (by omega)]
        simp
      · rw [if_neg (by omega), if_neg c1]
        obtain ⟨d, rfl⟩ : ∃ d, i = o + 1 + d := ⟨i - (o + 1), by omega⟩
        rw [show o + 1 + d - (o + 1) = d by omega, show o + 1 + d - o = d + 1 by omega]
        by_cases c3 : d < vs.length
        · rw [if_pos c3, List.getElem?_cons_succ, List.getElem?_append_left c3]
        · rw [if_neg c3, List.getElem?_cons_succ, List.getElem?_append_right (by omega), List.getElem?_drop, if_neg (by omega)]
          congr 1; omega
section
variable {P : Program}
/-- a load of a part of a variable -/
theorem wpList_load_blk {ops : Array Oper} {rest : List Oper} {op : Oper} {a : Act} {w : World} {Q : Exit → Act → World → Prop} (hgd : op.guard = none) (ty : TypeId) (x : Operand) (ho : op.op = .load ty x)
    (g o : Nat) (hx : a.eval x = .pointer (some ⟨g, o, none⟩)) {t : TypeId} {cs : Array Value} (hb : Blk w g t cs) (vs : List Value) (hv : (cs.toList.drop o).take vs.length = vs) {d : TypeDesc} (hu : P.underlying ty = some d) (hd : d.isRow = true)
    (hi : (P.info? ty).map (·.size) = some vs.length) (h : wpList P ops Q rest (a.put op.dst (.agg vs.toArray)) w) : wpList P ops Q (op :: rest) a w :=
  wpList_load_mid hgd ty x ho g o hx vs d (hb.range o vs hv) hu hd hi h
/-- a store of a part of a variable -/
theorem wpList_store_blk {ops : Array Oper} {rest : List Oper} {op : Oper} {a : Act} {w : World} {Q : Exit → Act → World → Prop} (hgd : op.guard = none) (ty : TypeId) (x y : Operand) (ho : op.op = .store ty x y)
    (g o : Nat) (cells : Array Value) (hx : a.eval x = .pointer (some ⟨g, o, none⟩)) (hy : a.eval y = .agg cells) {t : TypeId} {cs : Array Value} (hb : Blk w g t cs) (hn : o + cells.size ≤ cs.size)
    (hi : (P.info? ty).map (·.size) = some cells.size) (h1 : cells.toList.all (·.oneCell') = true) (cs' : Array Value) (hcs : cs.toList.take o ++ (cells.toList ++ cs.toList.drop (o + cells.size)) = cs'.toList)
    (h : ∀ w', Blk w' g t cs' → Mod (only g) w w' → wpList P ops Q rest (a.put op.dst undef) w') : wpList P ops Q (op :: rest) a w :=
  wpList_store_mid hgd ty x y ho g o cells hx hy (hb.there o _ hn) hi (by rw [← Array.all_toList]; exact h1) (h _ (by have e := setL_toList cells.toList cs o (by simpa using hn); rw [Array.length_toList, hcs, Array.toList_inj] at e; rw [← e]; exact Blk.setCells _ _ _ _ hb) (Mod.setCells _ _ _ _ (Mod.refl _ w) rfl))
theorem results_row_tmp {fn : Func} {p u : Tmp} {ty : TypeId} (h : fn.results = #[.cell p ty, .tmp u]) (tmps : Array Value) (w : World) (g : Nat) (t : TypeId) (cs : Array Value) (d : TypeDesc)
    (hp : tmps.getD p undef = .pointer (some ⟨g, 0, none⟩)) (hg : Blk w g t cs) (hu : P.underlying ty = some d) (hd : (match d with | .struct _ | .array _ _ => true | _ => false) = true) (hi : (P.info? ty).map (·.size) = some cs.size) :
    (results fn tmps).run P w = .ok (.tuple #[.agg cs, tmps.getD u undef]) w := by
  rw [results_cell_tmp h, hp]
  simp [asAddr, run_loadVar_row w g t ty cs (0, 0) d hg hu hd hi, Result.andThen]
/-- the end of a function whose results are a struct in a block and a scalar -/
theorem ret_row_tmp {fn : Func} {p u : Tmp} {ty : TypeId} (h : fn.results = #[.cell p ty, .tmp u]) {a : Act} {w : World} {R : Ending → World → Prop} (g : Nat) {t : TypeId} {cs : Array Value} (hp : a.tmps.getD p undef = .pointer (some ⟨g, 0, none⟩))
    (hg : Blk w g t cs) {d : TypeDesc} (hu : P.underlying ty = some d) (hd : (match d with | .struct _ | .array _ _ => true | _ => false) = true) (hi : (P.info? ty).map (·.size) = some cs.size) (v : Value) (hv : a.tmps.getD u undef = v) (hdf : a.defers = [])
    (hR : R (.returned (.tuple #[.agg cs, v])) w) : bodyPost P fn R .ret a w :=
  bodyPost_ret (results_row_tmp h a.tmps w g t cs d hp hg hu hd hi) hdf (by rw [hv]; exact hR)
theorem ret_row {fn : Func} {p : Tmp} {ty : TypeId} (h : fn.results = #[.cell p ty]) {a : Act} {w : World} {R : Ending → World → Prop} (g : Nat) {t : TypeId} {cs : Array Value} (hp : a.tmps.getD p undef = .pointer (some ⟨g, 0, none⟩))
    (hg : Blk w g t cs) {d : TypeDesc} (hu : P.underlying ty = some d) (hd : (match d with | .struct _ | .array _ _ => true | _ => false) = true) (hi : (P.info? ty).map (·.size) = some cs.size) (hdf : a.defers = [])
    (hR : R (.returned (.agg cs)) w) : bodyPost P fn R .ret a w :=
  bodyPost_ret (results_cell_row h a.tmps w g t cs (0, 0) d hp hg hu hd hi) hdf hR
end
/-- what is new to a world that was: a step within it -/
theorem Mod.in_new {w w1 w2 : World} {g : Nat} (h : Mod none_ w w1) (hg : w.heap.size ≤ g) (k : Mod (only g) w1 w2) : Mod none_ w w2 :=
  h.then k fun i hi hk => by have : i = g := hk; omega
end Go.Proofs.YtdnbclhidpkpgaaGreat
/-
  Records in memory: rows of them. No condition.
-/
namespace Go.Proofs.YtdnbclhidpkpgaaGreat
set_option linter.unusedVariables false
set_option linter.unusedSimpArgs false
open Go.RowKit
/-- a message, and where its lists lie -/
structure Rs where
  r : Rc
  L : SV
  D : SV
def rsC (x : Rs) : List Value := [.int .i64 x.r.i.r, .int .i64 x.r.i.n, .int .i64 x.r.bal, .int .i64 x.r.st, .int .i64 x.r.by_, .int .i64 x.r.e.o.c, .int .i64 x.r.e.o.s, .int .i64 x.r.e.o.k, .string (txt x.r.e.o.acct), .string (txt x.r.e.o.peer), .int .i64 x.r.e.o.sum, .slice x.L.a x.L.n x.L.c, .int .i64 x.r.e.o.per, .int .i64 x.r.e.o.hold, .string (txt x.r.e.o.note), .bool x.r.e.none, .slice x.D.a x.D.n x.D.c]
def rss (xs : List Rs) : List Value := xs.flatMap rsC
theorem rss_length (xs : List Rs) : (rss xs).length = xs.length * 17 := flat_length _ 17 (fun _ => rfl) xs
theorem rss_append (C D : List Rs) : rss (C ++ D) = rss C ++ rss D := by unfold rss; rw [List.flatMap_append]
theorem rss_one (xs : List Rs) : ∀ u ∈ rss xs, u.oneCell' = true := by
  intro u hu
  unfold rss at hu
  rw [List.mem_flatMap] at hu
  obtain ⟨a, _, ha⟩ := hu
  simp only [rsC, List.mem_cons, List.not_mem_nil, or_false] at ha
  rcases ha with rfl | rfl | rfl | rfl | rfl | rfl | rfl | rfl | rfl | rfl | rfl | rfl | rfl | rfl | rfl | rfl | rfl <;> rfl
def RdR (w : World) (A : Option Addr) (n : Nat) (xs : List Rs) : Prop := Rd w 17 A n (rss xs)
def OwR (w : World) (A : Option Addr) (n c : Nat) (xs : List Rs) : Prop := Ow w 37 17 A n c (rss xs)
/-- what the lists of messages hold -/
def RsM (w : World) (xs : List Rs) : Prop := ∀ x ∈ xs, EnM w x.r.e x.L x.D
def zeroR : Value := .agg #[.int .i64 0, .int .i64 0, .int .i64 0, .int .i64 0, .int .i64 0, .int .i64 0, .int .i64 0, .int .i64 0, .string ⟨#[]⟩, .string ⟨#[]⟩, .int .i64 0, .slice none 0 0, .int .i64 0, .int .i64 0, .string ⟨#[]⟩, .bool false, .slice none 0 0]
theorem rcinfo : (Tryz.prog.info? 37).map (fun i => (i.zero, i.size, i.bytes)) = some (some zeroR, 17, 192) := by kernel_rfl
theorem appR {w : World} {ops : Array Oper} {rest : List Oper} {o : Oper} {a : Act} {Q : Exit → Act → World → Prop} (hgd : o.guard = none) (s x : Operand)
    (ho : o.op = .call { callee := .builtin .append, args := #[s, x], argTypes := #[41, 41] })
    {A : Option Addr} {n c : Nat} {xs : List Rs} (hs : a.eval s = .slice A n c) (hown : OwR w A n c xs)
    {S : Option Addr} {m d : Nat} {news : List Rs} (hx : a.eval x = .slice S m d) (hr : RdR w S m news) (hb : (n + m) * 192 ≤ 140737488355328)
    (h : ∀ A' c' w', OwR w' A' (n + m) c' (xs ++ news) → Mod (fp A) w w' → (A' = A ∨ A' = some ⟨w.heap.size, 0, none⟩) → wpList Tryz.prog ops Q rest (a.put o.dst (.slice A' (n + m) c')) w') : wpList Tryz.prog ops Q (o :: rest) a w := by
  obtain ⟨i0, hi, hz0, hz1, hz2⟩ := info_parts rcinfo
  refine wpList_append_ow hgd s x 41 ho 37 i0 _ 17 192 Tryz.underlying41 hi hz0 hz1 hz2 rfl (by omega) A n c (rss xs) hs hown S m d (rss news) hx hr (rss_one _) (by omega) (by omega) ?_
  intro A' c' w' h1
  rw [← rss_append] at h1
  exact h A' c' w' h1
theorem rdr_get {w : World} {A : Option Addr} {n : Nat} {xs : List Rs} (h : RdR w A n xs) {j : Nat} (hj : j < n) : ∃ b o x, A = some ⟨b, o, none⟩ ∧ x ∈ xs ∧ xs[j]? = some x ∧ w.rangeAt b (o + j * 17) (rsC x) := by
  have hl : xs.length = n := by have := h.1; rw [rss_length] at this; omega
  obtain ⟨b, o, e, hc⟩ := Rd.form h (show 0 < n by omega) (by omega)
  have hjl : j < xs.length := by omega
  have hg := flat_get rsC 17 (fun _ => rfl) xs j xs[j] (List.getElem?_eq_getElem hjl)
  refine ⟨b, o, xs[j], e, List.getElem_mem hjl, List.getElem?_eq_getElem hjl, fun i v hv => ?_⟩
  have hi : i < 17 := by
    rcases Nat.lt_or_ge i 17 with h1 | h1
    · exact h1
    · rw [List.getElem?_eq_none (by simpa [rsC] using h1)] at hv; cases hv
  rw [Nat.add_assoc]
  exact hc (j * 17 + i) v ((hg i hi).trans hv)
/-- what of a message Right asks to be so -/
def RsOk (x : Rs) : Prop := x.L.n ≤ 140737488355328 ∧ x.D.n ≤ 140737488355328 ∧ (Lit.int .i64 x.r.e.o.k).wf = true ∧ ∀ l ∈ x.r.e.o.legs, (txt l.n).size ≤ maxLen
/-- a message's lists lie elsewhere -/
def FarR (F : Nat → Prop) (x : Rs) : Prop := (0 < x.L.n → ∀ k, fp x.L.a k → ¬ F k) ∧ (0 < x.D.n → ∀ k, fp x.D.a k → ¬ F k)
theorem FarR.en {F : Nat → Prop} {x : Rs} {w w' : World} (hf : FarR F x) (h : EnM w x.r.e x.L x.D) (hm : Mod F w w') : EnM w' x.r.e x.L x.D :=
  ⟨⟨Rd.mod' h.od.rd hm hf.1, h.od.cap⟩, Rd.mod' h.rd hm hf.2, h.cap⟩
theorem FarR.mono {F G : Nat → Prop} {x : Rs} (hf : FarR F x) (h : ∀ k, G k → F k) : FarR G x := ⟨fun h0 k hk hg => hf.1 h0 k hk (h k hg), fun h0 k hk hg => hf.2 h0 k hk (h k hg)⟩
def FarsR (F : Nat → Prop) (xs : List Rs) : Prop := ∀ x ∈ xs, FarR F x
theorem RsM.mod {F : Nat → Prop} {xs : List Rs} {w w' : World} (h : RsM w xs) (hf : FarsR F xs) (hm : Mod F w w') : RsM w' xs := fun x hx => (hf x hx).en (h x hx) hm
theorem RsM.mod0 {xs : List Rs} {w w' : World} (h : RsM w xs) (hm : Mod none_ w w') : RsM w' xs := fun x hx => (h x hx).mod0 hm
/-- what lies below a place is far from what is new -/
theorem farR_new {w : World} {x : Rs} (h : EnM w x.r.e x.L x.D) {F : Nat → Prop} (hF : ∀ k, F k → w.heap.size ≤ k) : FarR F x := by
  have b1 : ∀ {n : Nat} {A : Option Addr} {xs : List Value}, Rd w 2 A n xs → 0 < n → ∀ k, fp A k → k < w.heap.size := by
    intro n A xs hr hn k hk
    obtain ⟨a, e, rfl⟩ := hk
    obtain ⟨b, o, e', hc⟩ := hr.form hn (by omega)
    have hl : 0 < xs.length := by rw [hr.1]; omega
    have := hc 0 _ (List.getElem?_eq_getElem hl)
    rw [e] at e'
    cases e'
    exact World.block_lt_of_cell? w _ this
  exact ⟨fun h0 k hk hf => by have := b1 h.od.rd h0 k hk; have := hF k hf; omega, fun h0 k hk hf => by have := b1 h.rd h0 k hk; have := hF k hf; omega⟩
theorem farsR_new {w : World} {xs : List Rs} (h : RsM w xs) {F : Nat → Prop} (hF : ∀ k, F k → w.heap.size ≤ k) : FarsR F xs := fun x hx => farR_new (h x hx) hF
theorem rsC_len (x : Rs) : (rsC x).length = 17 := rfl
theorem rss_set : ∀ (ys : List Rs) (i : Nat) (x : Rs), i < ys.length → rss (ys.set i x) = (rss ys).take (i * 17) ++ (rsC x ++ (rss ys).drop (i * 17 + 17)) := by
  intro ys
  induction ys with
  | nil => intro i x h; simp at h
  | cons y ys ih =>
    intro i x h
    cases i with
    | zero =>
      simp only [List.set_cons_zero, Nat.zero_mul, List.take_zero, List.nil_append, Nat.zero_add]
      show rsC x ++ rss ys = rsC x ++ (rsC y ++ rss ys).drop 17
      rw [List.drop_append, rsC_len, List.drop_of_length_le (by rw [rsC_len]; exact Nat.le_refl _)]
      simp
    | succ i =>
      simp only [List.length_cons] at h
      have := ih i x (by omega)
      show rsC y ++ rss (ys.set i x) = (rsC y ++ rss ys).take ((i + 1) * 17) ++ (rsC x ++ (rsC y ++ rss ys).drop ((i + 1) * 17 + 17))
      have e1 : (rsC y ++ rss ys).take ((i + 1) * 17) = rsC y ++ (rss ys).take (i * 17) := by
        rw [List.take_append, List.take_of_length_le (l := rsC y) (by rw [rsC_len]; omega), rsC_len, show (i + 1) * 17 - 17 = i * 17 by omega]
      have e2 : (rsC y ++ rss ys).drop ((i + 1) * 17 + 17) = (rss ys).drop (i * 17 + 17) := by
        rw [List.drop_append, List.drop_of_length_le (l := rsC y) (by rw [rsC_len]; omega), rsC_len, show (i + 1) * 17 + 17 - 17 = i * 17 + 17 by omega]
        simp
      rw [this, e1, e2]
      simp
theorem ow_setCells {w : World} {e : TypeId} {size n c g : Nat} {xs : List Value} (h : Ow w e size (some ⟨g, 0, none⟩) n c xs) (o : Nat) (vs : List Value) (ho : o + vs.length ≤ n * size) :
    Ow (w.setCells g o vs) e size (some ⟨g, 0, none⟩) n c (xs.take o ++ (vs ++ xs.drop (o + vs.length))) := by
  obtain ⟨h1, h2, h3, h4⟩ := h
  rcases h4 with ⟨h4, _⟩ | ⟨g', cur, h4, hb, h5, h6⟩
  · cases h4
  · cases h4
    have hns : n * size ≤ cur.size := Nat.le_trans (Nat.mul_le_mul_right _ h2) h5
    have hsz := setL_toList vs cur o (by omega)
    refine ⟨by simp only [List.length_append, List.length_take, List.length_drop]; omega, h2, h3, .inr ⟨g, _, rfl, Blk.setCells _ _ _ _ hb, ?_, ?_⟩⟩
    · have : (setL cur o vs).size = cur.size := by
        rw [← Array.length_toList, hsz]
        simp only [List.length_append, List.length_take, List.length_drop, Array.length_toList]; omega
      rw [this]; exact h5
    · rw [hsz, ← h6]
      apply List.ext_getElem?
      intro i
      have m1 : min o cur.size = o := by omega
      have m2 : min o (min (n * size) cur.size) = o := by omega
      by_cases hi : i < n * size
      · simp only [List.getElem?_take, List.getElem?_append, List.length_take, List.getElem?_drop, Array.length_toList, m1, m2, if_pos hi]
        by_cases c1 : i < o
        · simp only [if_pos c1]
        · simp only [if_neg c1]
          by_cases c2 : i - o < vs.length
          · simp only [if_pos c2]
          · simp only [if_neg c2]
            rw [if_pos (by omega)]
      · rw [List.getElem?_take, if_neg hi, List.getElem?_eq_none]
        simp only [List.length_append, List.length_take, List.length_drop, Array.length_toList]; omega
theorem owM_set {w : World} {g n c : Nat} {ys : List Rs} (h : OwR w (some ⟨g, 0, none⟩) n c ys) {i : Nat} (hi : i < n) (x : Rs) : OwR (w.setCells g (i * 17) (rsC x)) (some ⟨g, 0, none⟩) n c (ys.set i x) := by
  have hl : ys.length = n := by have := h.1; rw [rss_length] at this; omega
  have := ow_setCells h (i * 17) (rsC x) (by rw [rsC_len]; omega)
  unfold OwR
  rw [rss_set ys i x (by omega)]
  exact this
theorem OwR.len {w : World} {A : Option Addr} {n c : Nat} {xs : List Rs} (h : OwR w A n c xs) : xs.length = n := by have := h.1; rw [rss_length] at this; omega
theorem OwR.take {w : World} {A : Option Addr} {n c : Nat} {xs : List Rs} (h : OwR w A n c xs) {k : Nat} (hk : k ≤ n) : OwR w A k c (xs.take k) := by
  have := Ow.take_ h hk
  have e : (rss xs).take (k * 17) = rss (xs.take k) := by
    have h0 : rss xs = rss (xs.take k) ++ rss (xs.drop k) := by rw [← rss_append, List.take_append_drop]
    rw [h0]
    have hl : (rss (xs.take k)).length = k * 17 := by rw [rss_length, List.length_take, h.len, Nat.min_eq_left hk]
    rw [List.take_append, hl, List.take_of_length_le (by omega)]
    simp
  rw [e] at this
  exact this
theorem rss_take (xs : List Rs) (k : Nat) (hk : k ≤ xs.length) : (rss xs).take (k * 17) = rss (xs.take k) := by
  have h0 : rss xs = rss (xs.take k) ++ rss (xs.drop k) := by rw [← rss_append, List.take_append_drop]
  rw [h0]
  have hl : (rss (xs.take k)).length = k * 17 := by rw [rss_length, List.length_take, Nat.min_eq_left hk]
  rw [List.take_append, hl, List.take_of_length_le (by omega)]
  simp
theorem rss_drop (xs : List Rs) (k : Nat) (hk : k ≤ xs.length) : (rss xs).drop (k * 17) = rss (xs.drop k) := by
  have h0 : rss xs = rss (xs.take k) ++ rss (xs.drop k) := by rw [← rss_append, List.take_append_drop]
  rw [h0]
  have hl : (rss (xs.take k)).length = k * 17 := by rw [rss_length, List.length_take, Nat.min_eq_left hk]
  rw [List.drop_append, hl, List.drop_of_length_le (by omega)]
  simp
theorem RdR.len {w : World} {A : Option Addr} {n : Nat} {xs : List Rs} (h : RdR w A n xs) : xs.length = n := by have := h.1; rw [rss_length] at this; omega
theorem rdR_take {w : World} {A : Option Addr} {n : Nat} {xs : List Rs} (h : RdR w A n xs) {k : Nat} (hk : k ≤ n) : RdR w A k (xs.take k) := by
  have := Rd.take_ h hk
  rw [rss_take xs k (by rw [h.len]; exact hk)] at this
  exact this
theorem rdR_drop {w : World} {A : Option Addr} {n c : Nat} {xs : List Rs} (h : RdR w A n xs) {k : Nat} (hk : k ≤ n) (hc : n ≤ c) : RdR w (if c = k then A else A.map (·.add (k * 17))) (n - k) (xs.drop k) := by
  have := Rd.drop_ h hk hc
  rw [rss_drop xs k (by rw [h.len]; exact hk)] at this
  exact this
theorem step_appR {w : World} {ops : Array Oper} {o : Oper} {a : Act} {K : Act → World → Prop} {Q : Exit → Act → World → Prop} {E : Prop} (hgd : o.guard = none) (s x : Operand)
    (ho : o.op = .call { callee := .builtin .append, args := #[s, x], argTypes := #[41, 41] })
    {A : Option Addr} {n c : Nat} {xs : List Rs} (hs : a.eval s = .slice A n c) (hown : OwR w A n c xs)
    {S : Option Addr} {m d : Nat} {news : List Rs} (hx : a.eval x = .slice S m d) (hr : RdR w S m news) (hb : (n + m) * 192 ≤ 140737488355328)
    (h : ∀ A' c' w', OwR w' A' (n + m) c' (xs ++ news) → Mod (fp A) w w' → (A' = A ∨ A' = some ⟨w.heap.size, 0, none⟩) → K (a.put o.dst (.slice A' (n + m) c')) w') : if Region.wanted o (yielded ops a.tmps) = true then Oper.wp Tryz.prog o a w K Q else E := by
  obtain ⟨i0, hi, hz0, hz1, hz2⟩ := info_parts rcinfo
  refine step_append_ow hgd s x 41 ho 37 i0 _ 17 192 Tryz.underlying41 hi hz0 hz1 hz2 rfl (by omega) A n c (rss xs) hs hown S m d (rss news) hx hr (rss_one _) (by omega) (by omega) ?_
  intro A' c' w' h1
  rw [← rss_append] at h1
  exact h A' c' w' h1
theorem rdR_one (w : World) (x : Rs) : RdR (w.alloc (.cells #[.int .i64 x.r.i.r, .int .i64 x.r.i.n, .int .i64 x.r.bal, .int .i64 x.r.st, .int .i64 x.r.by_, .int .i64 x.r.e.o.c, .int .i64 x.r.e.o.s, .int .i64 x.r.e.o.k, .string (txt x.r.e.o.acct), .string (txt x.r.e.o.peer), .int .i64 x.r.e.o.sum, .slice x.L.a x.L.n x.L.c, .int .i64 x.r.e.o.per, .int .i64 x.r.e.o.hold, .string (txt x.r.e.o.note), .bool x.r.e.none, .slice x.D.a x.D.n x.D.c] 37)) (some ⟨w.heap.size, 0, none⟩) 1 [x] :=
  rdn w 37 17 1 w.heap.size #[.int .i64 x.r.i.r, .int .i64 x.r.i.n, .int .i64 x.r.bal, .int .i64 x.r.st, .int .i64 x.r.by_, .int .i64 x.r.e.o.c, .int .i64 x.r.e.o.s, .int .i64 x.r.e.o.k, .string (txt x.r.e.o.acct), .string (txt x.r.e.o.peer), .int .i64 x.r.e.o.sum, .slice x.L.a x.L.n x.L.c, .int .i64 x.r.e.o.per, .int .i64 x.r.e.o.hold, .string (txt x.r.e.o.note), .bool x.r.e.none, .slice x.D.a x.D.n x.D.c] (0, 0) rfl rfl
theorem rc_size : (Tryz.prog.info? 37).map (·.size) = some 17 := by kernel_rfl
end Go.Proofs.YtdnbclhidpkpgaaGreat
