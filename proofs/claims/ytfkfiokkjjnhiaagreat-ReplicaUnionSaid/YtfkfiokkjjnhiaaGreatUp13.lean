import Derived.Test.YtfkfiokkjjnhiaaGreatUp3
import Derived.Test.YtfkfiokkjjnhiaaGreatUp12
import Derived.Test.YtfkfiokkjjnhiaaGreatUp2
import Derived.Shelf.SlIter.Collect
set_option linter.unusedVariables false
set_option linter.unusedSimpArgs false
set_option maxHeartbeats 16000000
namespace Go.Proofs.YtfkfiokkjjnhiaaGreat
open Go.RowKit
open Go.Maps (Keyed int_keyed)
def inV (i : Int) : Value := .int .i64 i
def inN (i : Int) : Prop := (Lit.int .i64 i).wf = true
def klN (i : Int) : Lit := .int .i64 i
theorem intKeyed : Keyed Tryz.prog 3 := int_keyed Tryz.underlying3
theorem klN_of {i : Int} (h : inN i) : keyOf Tryz.prog 3 (inV i) = some (klN i) := Go.Maps.keyOf_int_mk Tryz.underlying3 h
theorem klN_inv {v : Value} {l : Lit} (h : keyOf Tryz.prog 3 v = some l) : ∃ i, v = inV i ∧ inN i ∧ l = klN i := by
 obtain ⟨x, h1, h2, h3⟩ := Maps.keyOf_int_inv Tryz.underlying3 h
 exact ⟨x, h1, h3, h2⟩
theorem klN_inj {i j : Int} (hi : inN i) (hj : inN j) (h : klN i = klN j) : i = j := by simpa [klN] using h
theorem klN_key (i : Int) : WideAt.IsKeyLit (klN i) := trivial
abbrev IntV := Int × Value
def findN (L : List IntV) (i : Int) : Option Value := (L.find? (fun p => p.1 == i)).map (·.2)
def putN (i : Int) (v : Value) (L : List IntV) : List IntV := (i, v) :: L.filter fun p => !(p.1 == i)
def dropN (i : Int) (L : List IntV) : List IntV := L.filter fun p => !(p.1 == i)
structure RepN (D : DataW Value) (L : List IntV) : Prop where
 tidy : Maps.Tidy D
 nodup : L.Pairwise fun p q => p.1 ≠ q.1
 wf : ∀ p ∈ L, inN p.1
 size : Maps.size D = L.length
 at_ : ∀ i, inN i → ∀ z, D.atKey (klN i) (.held z) = .held ((findN L i).getD z)
 has : ∀ i, inN i → Maps.has D (klN i) = (findN L i).isSome
theorem findN_put_same (L : List IntV) (i : Int) (v : Value) : findN (putN i v L) i = some v := by simp [findN, putN]
theorem findN_drop_same (L : List IntV) (i : Int) : findN (dropN i L) i = none := by
 unfold findN dropN
 rw [List.find?_filter]
 rw [Option.map_eq_none_iff, List.find?_eq_none]
 intro x _
 cases (x.1 == i) <;> simp
theorem findN_drop_other (L : List IntV) {i j : Int} (h : j ≠ i) : findN (dropN i L) j = findN L j := by
 unfold findN dropN
 rw [List.find?_filter]
 congr 2
 funext a
 by_cases hj : a.1 = j
 ·have h1 : (a.1 == i) = false := by simp [hj, h]
  have h2 : (a.1 == j) = true := by simp [hj]
  rw [h1, h2]; rfl
 ·have h2 : (a.1 == j) = false := by simp [hj]
  rw [h2]; simp
theorem findN_put_other (L : List IntV) {i j : Int} (v : Value) (h : j ≠ i) : findN (putN i v L) j = findN L j := by
 have : findN (putN i v L) j = findN (dropN i L) j := by
  unfold findN putN dropN
  rw [List.find?_cons_of_neg (by simpa using fun e => h e.symm)]
 rw [this, findN_drop_other L h]
theorem findN_mem {L : List IntV} {i : Int} {v : Value} (h : findN L i = some v) : (i, v) ∈ L := by
 unfold findN at h
 cases hf : L.find? (fun p => p.1 == i) with
 | none => rw [hf] at h; cases h
 | some p =>
  rw [hf] at h
  simp only [Option.map_some, Option.some.injEq] at h
  have h1 := List.mem_of_find?_eq_some hf
  have h2 := List.find?_some hf
  simp only [beq_iff_eq] at h2
  obtain ⟨a, b⟩ := p
  simp only at h h2
  subst h h2
  exact h1
theorem findN_of_mem {L : List IntV} (hn : L.Pairwise fun p q => p.1 ≠ q.1) {i : Int} {v : Value} (h : (i, v) ∈ L) : findN L i = some v := by
 induction L with
 | nil => cases h
 | cons p L ih =>
  obtain ⟨h1, h2⟩ := List.pairwise_cons.1 hn
  unfold findN
  rcases List.mem_cons.1 h with h | h
  ·subst h; simp
  ·rw [List.find?_cons_of_neg (by simpa using h1 _ h)]
   exact ih h2 h
theorem findN_none {L : List IntV} {i : Int} (h : findN L i = none) : ∀ p ∈ L, p.1 ≠ i := by
 intro p hp he
 unfold findN at h
 rw [Option.map_eq_none_iff, List.find?_eq_none] at h
 exact h p hp (by simp [he])
theorem dropN_none {L : List IntV} {i : Int} (h : findN L i = none) : dropN i L = L := by
 unfold dropN
 rw [List.filter_eq_self]
 intro p hp
 have := findN_none h p hp
 simp [this]
theorem dropN_some {L : List IntV} (hn : L.Pairwise fun p q => p.1 ≠ q.1) {i : Int} {v : Value} (h : findN L i = some v) : (dropN i L).length + 1 = L.length := by
 induction L with
 | nil => cases h
 | cons p L ih =>
  obtain ⟨h1, h2⟩ := List.pairwise_cons.1 hn
  by_cases hp : p.1 = i
  ·have e : dropN i (p :: L) = L := by
    unfold dropN
    rw [List.filter_cons_of_neg (by simp [hp]), List.filter_eq_self]
    intro q hq
    have := h1 q hq
    rw [hp] at this
    simp [Ne.symm this]
   rw [e]; rfl
  ·have e : dropN i (p :: L) = p :: dropN i L := by
    unfold dropN
    rw [List.filter_cons_of_pos (by simp [hp])]
   have hf : findN L i = some v := by
    unfold findN at h ⊢
    rw [List.find?_cons_of_neg (by simpa using hp)] at h
    exact h
   rw [e, List.length_cons, List.length_cons, ih h2 hf]
theorem RepN.nil : RepN (.map []) [] := ⟨Maps.tidy_empty, List.Pairwise.nil, fun p hp => (List.not_mem_nil hp).elim, rfl, fun i hi z => rfl, fun i hi => rfl⟩
theorem RepN.put {D : DataW Value} {L : List IntV} (h : RepN D L) {i : Int} (hi : inN i) (v : Value) : RepN (D.put (klN i) (.held v)) (putN i v L) := by
 have hne : ∀ {j : Int}, inN j → j ≠ i → klN j ≠ klN i := fun hj h1 h2 => h1 (klN_inj hj hi h2)
 refine ⟨h.tidy.put (klN_key i) _, ?_, fun p hp => ?_, ?_, fun j hj z => ?_, fun j hj => ?_⟩
 ·refine List.pairwise_cons.2 ⟨fun q hq => ?_, h.nodup.filter _⟩
  have := (List.mem_filter.1 hq).2
  simp only [Bool.not_eq_true', beq_eq_false_iff_ne, ne_eq] at this
  exact fun e => this e.symm
 ·rcases List.mem_cons.1 hp with rfl | hp
  ·exact hi
  ·exact h.wf p (List.mem_filter.1 hp).1
 ·rw [Maps.size_put h.tidy, h.has i hi, h.size]
  show _ = (dropN i L).length + 1
  cases hf : findN L i with
  | none => rw [dropN_none hf]; simp
  | some v' => have := dropN_some h.nodup hf; simp; omega
 ·by_cases e : j = i
  ·subst e
   rw [Maps.atKey_put_same h.tidy.isMap (klN_key j), findN_put_same]; rfl
  ·rw [Maps.atKey_put_other (hne hj e), h.at_ j hj, findN_put_other L v e]
 ·by_cases e : j = i
  ·subst e
   rw [Maps.has_put_same h.tidy.isMap (klN_key j), findN_put_same]; rfl
  ·rw [Maps.has_put_other (hne hj e), h.has j hj, findN_put_other L v e]
theorem RepN.del {D : DataW Value} {L : List IntV} (h : RepN D L) {i : Int} (hi : inN i) : RepN (D.del (klN i)) (dropN i L) := by
 have hne : ∀ {j : Int}, inN j → j ≠ i → klN j ≠ klN i := fun hj h1 h2 => h1 (klN_inj hj hi h2)
 refine ⟨h.tidy.del _, h.nodup.filter _, fun p hp => h.wf p (List.mem_filter.1 hp).1, ?_, fun j hj z => ?_, fun j hj => ?_⟩
 ·have h1 := Maps.size_del (k := klN i) h.tidy
  rw [h.has i hi, h.size] at h1
  cases hf : findN L i with
  | none => rw [dropN_none hf]; rw [hf] at h1; simpa using h1
  | some v' => have := dropN_some h.nodup hf; rw [hf] at h1; simp at h1; omega
 ·by_cases e : j = i
  ·subst e
   rw [Maps.atKey_del_same, findN_drop_same]; rfl
  ·rw [Maps.atKey_del_other (hne hj e), h.at_ j hj, findN_drop_other L e]
 ·by_cases e : j = i
  ·subst e
   rw [Maps.has_del_same, findN_drop_same]; rfl
  ·rw [Maps.has_del_other (hne hj e), h.has j hj, findN_drop_other L e]
def MapN (w : World) (b : Nat) (L : List IntV) : Prop := ∃ n D, n < maxLen ∧ w.ownsMap Tryz.prog 3 VR b n D ∧ RepN D L
section
variable {F : Nat → Prop} {w w' : World} {b : Nat} {L : List IntV}
theorem MapN.lt (h : MapN w b L) : b < w.heap.size := by obtain ⟨n, D, _, h, _⟩ := h; exact h.lt
theorem MapN.nodup (h : MapN w b L) : L.Pairwise fun p q => p.1 ≠ q.1 := by obtain ⟨n, D, _, _, h⟩ := h; exact h.nodup
theorem MapN.wf (h : MapN w b L) : ∀ p ∈ L, inN p.1 := by obtain ⟨n, D, _, _, h⟩ := h; exact h.wf
theorem MapN.mod (h : MapN w b L) (hm : Mod F w w') (hb : ¬ F b) : MapN w' b L := by
 obtain ⟨n, D, hn, ⟨es, clock, h1, h2⟩, h3⟩ := h
 exact ⟨n, D, hn, ⟨es, clock, (hm.block b (Array.getElem?_eq_some_iff.1 h1).1 hb).trans h1, h2⟩, h3⟩
theorem MapN.alloc (h : MapN w b L) (o : Obj) : MapN (w.alloc o) b L := by obtain ⟨n, D, hn, h1, h3⟩ := h; exact ⟨n, D, hn, h1.alloc o, h3⟩
theorem MapN.made (w : World) : MapN (w.alloc (.map #[] 0)) w.heap.size [] := ⟨0, _, by decide, World.ownsMap_made _ _ _ _, RepN.nil⟩
theorem MapN.tight (h : MapN w b L) : ∃ D, w.ownsMap Tryz.prog 3 VR b L.length D ∧ RepN D L := by
 obtain ⟨n, D, hn, ⟨es, clock, h1, h2, h3, h4⟩, h5⟩ := h
 refine ⟨D, ⟨es, clock, h1, h2, ?_, h4⟩, h5⟩
 have := congrArg Maps.size h4
 rw [h5.size] at this
 rw [this]; simp [Maps.size, length_sorted]
theorem MapN.store_run (h : MapN w b L) {t e : TypeId} (ht : Tryz.prog.underlying t = some (.map 3 e)) (hroom : L.length + 1 < maxLen) {i : Int} (hi : inN i) (val : Value) :
  ∃ w', (Instr.mapUpdate t (.map (some b)) (inV i) val).run Tryz.prog w = .ok () w' ∧ MapN w' b (putN i val L) ∧ Mod (· = b) w w' ∧ w'.heap.size = w.heap.size := by
 obtain ⟨D, h1, h2⟩ := h.tight
 obtain ⟨w', hrun, h3, h4⟩ := h1.store intKeyed ht (by omega) (klN_of hi) (d := .held val) (ps := []) (show VR val = some (.held val, []) from rfl)
 refine ⟨w', hrun, ⟨_, _, hroom, h3, h2.put hi val⟩, (Mod.of_grown h4.grown).mono fun i hi => by cases hi; rfl, ?_⟩
 obtain ⟨es, c, es', c', _, rfl⟩ := h4
 simp [ChangeMaps.setBlock]
theorem MapN.look_run (h : MapN w b L) {t e : TypeId} (ht : Tryz.prog.underlying t = some (.map 3 e)) {z : Value} (hz : (zeroValue e).run Tryz.prog w = .ok z w) {i : Int} (hi : inN i) :
  (Instr.lookup t (.map (some b)) (inV i) true).run Tryz.prog w = .ok (.tuple #[(findN L i).getD z, .bool (findN L i).isSome]) w := by
 obtain ⟨D, h1, h2⟩ := h.tight
 obtain ⟨v, ps, hrun, hv⟩ := h1.look_ok intKeyed ht hz (zd := .held z) (zp := []) rfl (klN_of hi)
 rw [h2.at_ i hi] at hv
 have : v = (findN L i).getD z := by simp [VR] at hv; exact hv.1
 rw [this, h2.has i hi] at hrun
 exact hrun
theorem MapN.len_run (h : MapN w b L) {t e : TypeId} (ht : Tryz.prog.underlying t = some (.map 3 e)) (ty : TypeId) : (Builtin.len_ #[t] ty #[.map (some b)]).run Tryz.prog w = .ok (.int .i64 (L.length : Nat)) w := by
 obtain ⟨D, h1, h2⟩ := h.tight
 have := h1.len ht ty
 rw [h2.size] at this
 exact this
theorem MapN.drop_run (h : MapN w b L) {t e : TypeId} (ht : Tryz.prog.underlying t = some (.map 3 e)) {i : Int} (hi : inN i) (ty : TypeId) :
  ∃ w', (Builtin.delete_ #[t, 3] ty #[.map (some b), inV i]).run Tryz.prog w = .ok (.tuple #[]) w' ∧ MapN w' b (dropN i L) ∧ Mod (· = b) w w' ∧ w'.heap.size = w.heap.size := by
 obtain ⟨n, D, hn, h1, h2⟩ := h
 obtain ⟨w', hrun, h3, h4⟩ := h1.drop intKeyed ht (klN_of hi) ty
 refine ⟨w', hrun, ⟨n, _, hn, h3, h2.del hi⟩, (Mod.of_grown h4.grown).mono fun i hi => by cases hi; rfl, ?_⟩
 obtain ⟨es, c, es', c', _, rfl⟩ := h4
 simp [ChangeMaps.setBlock]
end
def ItN (w : World) (b r : Nat) (L R : List IntV) : Prop := ∃ n D left cnt, w.ranges Tryz.prog 3 VR b r n D left cnt ∧ RepN D L ∧ R = L.filter fun p => left (klN p.1)
theorem ItN.mod {F : Nat → Prop} {w w' : World} {b r : Nat} {L R : List IntV} (h : ItN w b r L R) (hm : Mod F w w') (hb : ¬ F b) (hr : ¬ F r) : ItN w' b r L R := by
 obtain ⟨n, D, left, cnt, ⟨es, clock, since, seen, c0, h1, h2, h3, h4, h5, h6⟩, h7, h8⟩ := h
 have lb : b < w.heap.size := (Array.getElem?_eq_some_iff.1 h1).1
 have lr : r < w.heap.size := (Array.getElem?_eq_some_iff.1 h5).1
 exact ⟨n, D, left, cnt, ⟨es, clock, since, seen, c0, (hm.block b lb hb).trans h1, h2, h3, h4, (hm.block r lr hr).trans h5, h6⟩, h7, h8⟩
theorem ItN.next {w : World} {b r : Nat} {L R : List IntV} (h : ItN w b r L R) (ty : TypeId) :
  (R = [] ∧ (Instr.next (.pointer (some ⟨r, 0, none⟩)) false ty).run Tryz.prog w = .ok (.tuple #[.bool false]) w) ∨
  ∃ (p : IntV) (w' : World), p ∈ R ∧ p ∈ L ∧ ItN w' b r L (dropN p.1 R) ∧ ((dropN p.1 R).length < R.length ∧ w'.rangeLeft b r < w.rangeLeft b r) ∧ Mod (· = r) w w' ∧ w'.heap.size = w.heap.size ∧
   (Instr.next (.pointer (some ⟨r, 0, none⟩)) false ty).run Tryz.prog w = .ok (.tuple #[.bool true, inV p.1, p.2]) w' ∧
   (Instr.entry (.pointer (some ⟨r, 0, none⟩))).run Tryz.prog w' = .ok (.tuple #[inV p.1, p.2]) w' := by
 obtain ⟨n, D, left, cnt, hr, h2, h3⟩ := h
 rcases hr.next intKeyed ty with ⟨h0, hl, hrun⟩ | ⟨key, v, kl, y, w', cnt', hkey, hlk, hv, hat, hrun, hrg, hlt, hgr, hsz, hen⟩
 ·refine .inl ⟨?_, hrun⟩
  rw [h3, List.filter_eq_nil_iff]
  intro p _
  rw [hl]; simp
 ·right
  obtain ⟨i, rfl, hi, rfl⟩ := klN_inv hkey
  have hy : y = (.held v, []) := by unfold VR at hv; exact (Option.some.inj hv).symm
  subst hy
  have hfs : (findN L i).isSome = true := by
   rw [← h2.has i hi]
   cases hh : Maps.has D (klN i) with
   | true => rfl
   | false =>
    have := Maps.atKey_of_not_has hh (.held (.bool true))
    have h5 := Maps.atKey_of_not_has hh (.held (.bool false))
    rw [hat] at this h5
    rw [this] at h5
    cases h5
  obtain ⟨v', hf⟩ := Option.isSome_iff_exists.1 hfs
  have hvv : v' = v := by
   have h5 := h2.at_ i hi v
   rw [hat, hf] at h5
   simpa using h5.symm
  subst hvv
  have hm := findN_mem hf
  have hmR : (i, v') ∈ R := by rw [h3]; exact List.mem_filter.2 ⟨hm, hlk⟩
  have hR' : dropN i R = L.filter fun p => (left (klN p.1) && !(klN p.1).sameKey (klN i)) := by
   rw [h3]
   unfold dropN
   rw [List.filter_filter]
   refine List.filter_congr fun p hp => ?_
   by_cases e : p.1 = i
   ·rw [e]
    have : (klN i).sameKey (klN i) = true := WideAt.sameKey_self (klN_key i)
    simp [this]
   ·have : (klN p.1).sameKey (klN i) = false := Maps.sameKey_ne (fun h => e (klN_inj (h2.wf p hp) hi h))
    have e2 : (p.1 == i) = false := by simpa using e
    rw [this, e2]
    simp
  have hRn : R.Pairwise fun p q => p.1 ≠ q.1 := by rw [h3]; exact h2.nodup.filter _
  refine ⟨(i, v'), w', hmR, hm, ⟨n, D, _, cnt', hrg, h2, hR'⟩, ?_, (Mod.of_grown hgr).mono fun k hk => by cases hk; rfl, hsz, hrun, hen⟩
  have := dropN_some hRn (findN_of_mem hRn hmR)
  refine ⟨?_, by rw [hrg.left_eq, hr.left_eq]; exact hlt⟩
  show (dropN i R).length < R.length
  omega
end Go.Proofs.YtfkfiokkjjnhiaaGreat
namespace Go.Proofs.YtfkfiokkjjnhiaaGreat
open Go.RowKit
def i1 : Is := ⟨1, 1⟩
def o1 : Od := ⟨0, 1, 7, [97], [], 0, [], 0, 0, []⟩
def e1 : En := ⟨o1, false, []⟩
def L0 : SV := ⟨none, 0, 0⟩
def slV (x : Rs) : Value := .agg #[.int .i64 x.r.bal, .int .i64 x.r.st, .int .i64 x.r.by_, .int .i64 x.r.e.o.c, .int .i64 x.r.e.o.s, .int .i64 x.r.e.o.k, .string (txt x.r.e.o.acct), .string (txt x.r.e.o.peer), .int .i64 x.r.e.o.sum, .slice x.L.a x.L.n x.L.c, .int .i64 x.r.e.o.per, .int .i64 x.r.e.o.hold, .string (txt x.r.e.o.note), .bool x.r.e.none, .slice x.D.a x.D.n x.D.c]
def enV (e : En) (L D : SV) : Value := .agg #[.int .i64 e.o.c, .int .i64 e.o.s, .int .i64 e.o.k, .string (txt e.o.acct), .string (txt e.o.peer), .int .i64 e.o.sum, .slice L.a L.n L.c, .int .i64 e.o.per, .int .i64 e.o.hold, .string (txt e.o.note), .bool e.none, .slice D.a D.n D.c]
def sl1 (st : Int) (D : SV) : Rs := ⟨⟨i1, 0, st, 0, e1⟩, L0, D⟩
def slZ (i : Is) : Rs := ⟨⟨i, 0, 0, 0, en0⟩, L0, L0⟩
theorem rd_zero {w : World} {size : Nat} {A : Option Addr} : Rd w size A 0 [] := ⟨by simp, fun h => absurd h (by omega)⟩
theorem e1_mem (w : World) {D : SV} (h : D.n = 0) : EnM w e1 L0 D := ⟨⟨Rd.none_, Nat.le_refl _⟩, by rw [h]; exact rd_zero, by omega⟩
theorem i1_in : inI i1 := ⟨by decide, by decide⟩
theorem right1 (D : SV) {st : Int} (h : st = 1 ∨ st = 2 ∨ st = 3) : rightR (sl1 st D).r = true := by
 rcases h with rfl | rfl | rfl
 ·show rightR ⟨i1, 0, 1, 0, e1⟩ = true
  decide +kernel
 ·show rightR ⟨i1, 0, 2, 0, e1⟩ = true
  decide +kernel
 ·show rightR ⟨i1, 0, 3, 0, e1⟩ = true
  decide +kernel
theorem rightE1 : rightE i1 e1 = true := by decide +kernel
theorem rightO1 : rightO o1 = true := by decide +kernel
theorem ok1 {st : Int} {D : SV} (h : D.n = 0) : RsOk (sl1 st D) := ⟨by show (0 : Nat) ≤ _; omega, by show D.n ≤ _; omega, (by decide : (Lit.int .i64 7).wf = true), fun l hl => by cases hl⟩
theorem nums1 : numsE e1 := ⟨⟨by decide, by decide⟩, fun l hl => by cases hl⟩
def ms1 (frm tto kind st : Int) (D : SV) : Ms := ⟨⟨frm, tto, kind, ⟨i1, 0, st, 0, e1⟩⟩, L0, D⟩
def msG (frm tto : Int) : Ms := ⟨⟨frm, tto, 9, ⟨i1, 0, 0, 0, en0⟩⟩, L0, L0⟩
instance (i : Int) : Decidable (inN i) := by unfold inN; infer_instance
instance (i : Is) : Decidable (inI i) := by unfold inI; infer_instance
theorem MapK.get_run {w : World} {b : Nat} {L : List InstV} (h : MapK w b L) {t e : TypeId} (ht : Tryz.prog.underlying t = some (.map 27 e)) {z : Value} (hz : (zeroValue e).run Tryz.prog w = .ok z w) {i : Is} (hi : inI i) :
  (Instr.lookup t (.map (some b)) (isVal i) false).run Tryz.prog w = .ok ((findI L i).getD z) w := by
 obtain ⟨D, h1, h2⟩ := h.tight
 obtain ⟨v, ps, hrun, hv⟩ := h1.lookup instKeyed ht hz (zd := .held z) (zp := []) rfl (klI_of hi)
 rw [h2.at_ i hi] at hv
 have : v = (findI L i).getD z := by simp [VR] at hv; exact hv.1
 rw [this] at hrun
 exact hrun
theorem MapN.get_run {w : World} {b : Nat} {L : List IntV} (h : MapN w b L) {t e : TypeId} (ht : Tryz.prog.underlying t = some (.map 3 e)) {z : Value} (hz : (zeroValue e).run Tryz.prog w = .ok z w) {i : Int} (hi : inN i) :
  (Instr.lookup t (.map (some b)) (.int .i64 i) false).run Tryz.prog w = .ok ((findN L i).getD z) w := by
 obtain ⟨D, h1, h2⟩ := h.tight
 obtain ⟨v, ps, hrun, hv⟩ := h1.lookup intKeyed ht hz (zd := .held z) (zp := []) rfl (klN_of hi)
 rw [h2.at_ i hi] at hv
 have : v = (findN L i).getD z := by simp [VR] at hv; exact hv.1
 rw [this] at hrun
 exact hrun
theorem mapN_insert (w : World) {ops : Array Oper} {rest : List Oper} {o : Oper} {a : Act} {Q : Exit → Act → World → Prop} (hg : o.guard = none) (m x v : Operand) (t : TypeId) (hop : o.op = Op.insert t m x v) {e : TypeId} (ht : Tryz.prog.underlying t = some (.map 3 e))
  (b : Nat) (L : List IntV) (hm : a.eval m = .map (some b)) (h : MapN w b L) (hroom : L.length + 1 < maxLen) (s : Int) (hs : inN s) (hx : a.eval x = .int .i64 s) (val : Value) (hv : a.eval v = val)
  (hK : ∀ w', MapN w' b (putN s val L) → Mod (· = b) w w' → w'.heap.size = w.heap.size → wpList Tryz.prog ops Q rest (a.put o.dst undef) w') :
  wpList Tryz.prog ops Q (o :: rest) a w := by
 refine wpList_plain hg fun K' hK' => ?_
 obtain ⟨w', hrun, h1, hm', hs'⟩ := h.store_run ht hroom hs val
 unfold inV at hrun
 unfold Oper.wp
 simp [execOp, hop, hm, hx, hv, hrun, Result.andThen]
 exact hK' _ _ (hK w' h1 hm' hs')
theorem MapN.made' (w : World) {b : Nat} (h : b = w.heap.size) : MapN (w.alloc (.map #[] 0)) b [] := by subst h; exact MapN.made w
end Go.Proofs.YtfkfiokkjjnhiaaGreat
namespace Go.Proofs.YtfkfiokkjjnhiaaGreat
open Go.RowKit Go.Sort Go.Shelf
def rsV (x : Rs) : Value := .agg #[.int .i64 x.r.i.r, .int .i64 x.r.i.n, .int .i64 x.r.bal, .int .i64 x.r.st, .int .i64 x.r.by_, .int .i64 x.r.e.o.c, .int .i64 x.r.e.o.s, .int .i64 x.r.e.o.k, .string (txt x.r.e.o.acct), .string (txt x.r.e.o.peer), .int .i64 x.r.e.o.sum, .slice x.L.a x.L.n x.L.c, .int .i64 x.r.e.o.per, .int .i64 x.r.e.o.hold, .string (txt x.r.e.o.note), .bool x.r.e.none, .slice x.D.a x.D.n x.D.c]
def mapM (M : List Rs) : List InstV := M.map fun x => (x.r.i, rsV x)
theorem grown_of_mod {w w' : World} {g : Nat} (h : Mod (only g) w w') : w.grownBy w' (some g) := ⟨h.os, h.tape, h.output, h.size, fun k hk hne => h.block k hk (fun hh => hne (by have : k = g := hh; rw [this]))⟩
theorem wpListIn_store_blk {F : Fence} {n : Nat} {P : Program} {ops : Array Oper} {rest : List Oper} {op : Oper} {a : Act} {w : World} {Q : Exit → Act → World → Prop} (hgd : op.guard = none) (ty : TypeId) (x y : Operand) (ho : op.op = .store ty x y)
  (g o : Nat) (cells : Array Value) (hx : a.eval x = .pointer (some ⟨g, o, none⟩)) (hy : a.eval y = .agg cells) {t : TypeId} {cs : Array Value} (hb : Blk w g t cs) (hn : o + cells.size ≤ cs.size)
  (hi : (P.info? ty).map (·.size) = some cells.size) (h1 : cells.toList.all (·.oneCell') = true) (cs' : Array Value) (hcs : cs.toList.take o ++ (cells.toList ++ cs.toList.drop (o + cells.size)) = cs'.toList)
  (h : ∀ w', Blk w' g t cs' → Mod (only g) w w' → wpListIn F n P ops Q rest (a.put op.dst undef) w') : wpListIn F n P ops Q (op :: rest) a w := by
 refine wpListIn_plain hgd fun K hK' => ?_
 have hrun := run_storeAt_mid (P := P) w g o ty cells (hb.there o _ hn) hi (by rw [← Array.all_toList]; exact h1)
 unfold Oper.wpIn
 refine ⟨?_, ?_⟩
 ·simp [Oper.about, ho]
 ·rw [Oper.semAt_plain F _ _ (by rw [ho]; intro c hc'; cases hc')]
  simp [execOp, ho, hx, hy, hrun, Result.andThen]
  exact hK' _ _ (h _ (by have e := setL_toList cells.toList cs o (by simpa using hn); rw [Array.length_toList, hcs, Array.toList_inj] at e; rw [← e]; exact Blk.setCells _ _ _ _ hb) (Mod.setCells _ _ _ _ (Mod.refl _ w) rfl))
theorem wpListIn_load_blk {F : Fence} {n : Nat} {P : Program} {ops : Array Oper} {rest : List Oper} {op : Oper} {a : Act} {w : World} {Q : Exit → Act → World → Prop} (hgd : op.guard = none) (ty : TypeId) (x : Operand) (ho : op.op = .load ty x)
  (g o : Nat) (hx : a.eval x = .pointer (some ⟨g, o, none⟩)) {t : TypeId} {cs : Array Value} (hb : Blk w g t cs) (vs : List Value) (hv : (cs.toList.drop o).take vs.length = vs) {d : TypeDesc} (hu : P.underlying ty = some d) (hd : d.isRow = true)
  (hi : (P.info? ty).map (·.size) = some vs.length) (h : wpListIn F n P ops Q rest (a.put op.dst (.agg vs.toArray)) w) : wpListIn F n P ops Q (op :: rest) a w := by
 refine wpListIn_plain hgd fun K hK' => ?_
 have hrun := run_loadAt_mid (P := P) w g o ty vs d (hb.range o vs hv) hu hd hi
 unfold Oper.wpIn
 refine ⟨?_, ?_⟩
 ·simp [Oper.about, ho]
 ·rw [Oper.semAt_plain F _ _ (by rw [ho]; intro c hc'; cases hc')]
  simp [execOp, ho, hx, hrun, Result.andThen]
  exact hK' _ _ h
theorem ItK.of_walks {w w' : World} {b r : Nat} {L R : List InstV} (h : ItK w b r L R) (hk : KeepsWalks w w') : ItK w' b r L R := by
 obtain ⟨n, D, left, cnt, h1, h2, h3⟩ := h
 exact ⟨n, D, left, cnt, h1.of_walks hk, h2, h3⟩
theorem ItK.iter_walk {w : World} {b r : Nat} {L R : List InstV} (h : ItK w b r L R) : ∃ o : Obj, w.heap[r]? = some o ∧ o.isWalk = true := by
 obtain ⟨n, D, left, cnt, h1, _⟩ := h
 exact h1.iter_walk
theorem grown_new {w w1 w' : World} (h1 : w.grownBy w1 none) {g : Nat} (hg : w.heap.size ≤ g) (h : Mod (only g) w1 w') : w.grownBy w' none :=
 ⟨h.os.trans h1.os, h.tape.trans h1.tape, h.output.trans h1.output, Nat.le_trans h1.size h.size, fun k hk _ => (h.block k (Nat.lt_of_lt_of_le hk h1.size) (fun hh => by have : k = g := hh; omega)).trans (h1.block k hk (by simp))⟩
theorem mapM_drop {M : List Rs} {x : Rs} (hn : (mapM M).Pairwise fun p q => p.1 ≠ q.1) (h : x ∈ M) : ∃ M', dropI x.r.i (mapM M) = mapM M' ∧ (x :: M').Perm M := by
 induction M with
 | nil => cases h
 | cons y M ih =>
  obtain ⟨h1, h2⟩ := List.pairwise_cons.1 hn
  by_cases he : y.r.i = x.r.i
  ·have hxy : x = y := by
    rcases List.mem_cons.1 h with h | h
    ·exact h
    ·exact absurd he (h1 _ (List.mem_map.2 ⟨x, h, rfl⟩))
   subst hxy
   refine ⟨M, ?_, List.Perm.refl _⟩
   show dropI x.r.i ((x.r.i, rsV x) :: mapM M) = _
   unfold dropI
   rw [List.filter_cons_of_neg (by simp), List.filter_eq_self]
   intro q hq
   have := h1 q hq
   simpa using fun e => this e.symm
  ·have hx : x ∈ M := by
    rcases List.mem_cons.1 h with h | h
    ·subst h; exact absurd rfl he
    ·exact h
   obtain ⟨M', e1, e2⟩ := ih h2 hx
   refine ⟨y :: M', ?_, (List.Perm.swap y x M').trans (e2.cons y)⟩
   show dropI x.r.i ((y.r.i, rsV y) :: mapM M) = _
   unfold dropI
   rw [List.filter_cons_of_pos (by simpa using he)]
   show _ :: dropI x.r.i (mapM M) = _
   rw [e1]; rfl
set_option maxRecDepth 100000
theorem values1_in (F : Fence) (n : Nat) (hF : F.fn 167) (hro : F.round = none) (hn : 1 ≤ n) (l Bm b : Nat) (M : List Rs) (J : List Rs → World → Prop)
  (hY : ∀ pre x W, J pre W → pre.length < M.length → x ∈ M → YieldAt F (n - 1) Tryz.prog l #[rsV x] W fun e W' => e = .returned (.bool true) ∧ J (pre ++ [x]) W' ∧ KeepsWalks W W')
  (W : World) (hJ : AbidesFrom W.heap.size J) (hm : W.cell? ⟨Bm, 0, none⟩ = some (.map (some b))) (hown : MapK W b (mapM M)) (h0 : J [] W) :
  CallsIn F n Tryz.prog 167 #[.func (.yield l) #[] #[], .pointer (some ⟨Bm, 0, none⟩)] W fun e W' => (∃ v, e = .returned v) ∧ ∃ ss : List Rs, ss.Perm M ∧ J ss W' := by
 obtain ⟨D, ho1, ho2⟩ := hown.tight
 refine callsIn_of_wp Tryz.func167 rfl hF ?_ hro
 simp only [Tryz.ntmps167, List.size_toArray, List.length_cons, List.length_nil, Nat.reduceAdd, Nat.reduceSub, Array.replicate_succ, Array.replicate_zero, List.push_toArray, List.append_toArray, List.nil_append, List.cons_append]
 have hK := zH (hY)
 replace hY := zH hY
 replace hJ := zH hJ
 replace h0 := zH h0
 replace ho2 := zH ho2
 replace hown := zH hown
 gi_wp2_with (first
  | (gi_at_range; refine wpListIn_range_own _ rfl _ 177 rfl 27 57 instKeyed Tryz.underlying177 VR b _ _ rfl ho1 ?_; intro w0 hrg0 hg0 hs0)
  | gi_in)
 go_frame
 have hIt0 : ItK w0 b W.heap.size (mapM M) (mapM M) := ⟨_, D, _, _, hrg0, ho2.out, by
  symm
  rw [List.filter_eq_self]
  intro p hp
  rw [ho2.out.has p.1 (ho2.out.wf p hp), findI_of_mem ho2.out.nodup (show (p.1, p.2) ∈ mapM M from hp)]; rfl⟩
 have hnd := zH ho2.out.nodup
 have hJ0 := zH (hJ.out [] W w0 none h0.out hg0 (fun r e => by cases e))
 have hsz0 := zH (show W.heap.size < w0.heap.size by rw [hs0]; omega)
 clear hrg0 hg0 ho1 hs0
 replace hIt0 := zH hIt0
 gi_loopw [4] (fun _ wr => ∃ (ss R : List Rs), ItK wr b W.heap.size (mapM M) (mapM R) ∧ (ss ++ R).Perm M ∧ (∀ x ∈ R, x ∈ M) ∧ W.heap.size < wr.heap.size ∧ J ss wr)
  (fun _ wr => wr.rangeLeft b W.heap.size)
 case atStart =>
  exact ⟨[], M, hIt0.out, by simp, fun x hx => hx, hsz0.out, hJ0.out⟩
 case round =>
  obtain ⟨ss, R, hIt, hP, hR, hsz, hJs⟩ := hrel
  rcases hIt.next 0 with ⟨hR0, hrun⟩ | ⟨p, w2, hpR, hpM, hIt2, ⟨hle, hml⟩, hm2, hs2, hrun, hen⟩
  ·have hR0' : R = [] := by cases R with | nil => rfl | cons y R => cases hR0
   subst hR0'
   rw [List.append_nil] at hP
   replace hP := zH hP
   replace hJs := zH hJs
   clear hIt hR
   gi_wp2
   go_end0
   exact ⟨⟨_, rfl⟩, ss, hP.out, hJs.out⟩
  ·obtain ⟨x, hxR, rfl⟩ := List.mem_map.1 hpR
   have hRn : (mapM R).Pairwise fun p q => p.1 ≠ q.1 := by
    have hsub : (mapM R).length = R.length := by simp [mapM]
    obtain ⟨n', D', left, cnt, _, hr2, hr3⟩ := hIt
    rw [hr3]; exact hr2.nodup.filter _
   obtain ⟨R', e1, e2⟩ := mapM_drop hRn hxR
   simp only at hIt2 hrun hen hle
   rw [e1] at hIt2 hle
   have hP2 : (ss ++ [x] ++ R').Perm M := by
    rw [List.append_assoc]
    exact (List.Perm.append_left ss e2).trans hP
   have hlen : ss.length < M.length := by
    have := hP2.length_eq
    simp at this; omega
   have hg2 : wr.grownBy w2 (some W.heap.size) := grown_of_mod (hm2.mono (fun i hi => hi))
   have hJ2 := hJ.out ss wr w2 _ hJs hg2 (fun r e => by cases e; exact ⟨Nat.le_refl _, hIt.iter_walk⟩)
   have hz := zH (Blk.new w2 57 #[.int .i64 0, .int .i64 0, .int .i64 0, .int .i64 0, .int .i64 0, .int .i64 0, .int .i64 0, .int .i64 0, .string ⟨#[]⟩, .string ⟨#[]⟩, .int .i64 0, .slice none 0 0, .int .i64 0, .int .i64 0, .string ⟨#[]⟩, .bool false, .slice none 0 0])
   unfold rsV at hrun hen
   replace hP := zH hP
   replace hP2 := zH hP2
   replace hJs := zH hJs
   replace hJ2 := zH hJ2
   replace hlen := zH hlen
   replace hR := zH hR
   replace hxR := zH hxR
   replace e2 := zH e2
   replace hIt := zH hIt
   replace hIt2 := zH hIt2
   replace hRn := zH hRn
   replace hm2 := zH hm2
   replace hs2 := zH hs2
   replace hg2 := zH hg2
   replace hle := zH hle
   replace hpR := zH hpR
   replace hpM := zH hpM
   gi_wp2_with (first
    | (refine wpListIn_store_blk rfl 57 (.tmp 4) (.tmp 10) rfl w2.heap.size 0 _ rfl rfl hz.out (by simp) rc_size (by rfl) #[.int .i64 x.r.i.r, .int .i64 x.r.i.n, .int .i64 x.r.bal, .int .i64 x.r.st, .int .i64 x.r.by_, .int .i64 x.r.e.o.c, .int .i64 x.r.e.o.s, .int .i64 x.r.e.o.k, .string (txt x.r.e.o.acct), .string (txt x.r.e.o.peer), .int .i64 x.r.e.o.sum, .slice x.L.a x.L.n x.L.c, .int .i64 x.r.e.o.per, .int .i64 x.r.e.o.hold, .string (txt x.r.e.o.note), .bool x.r.e.none, .slice x.D.a x.D.n x.D.c] rfl ?_; intro w3 hb3 hm3; have hm3' := ((Mod.refl none_ w2).alloc (.cells #[.int .i64 0, .int .i64 0, .int .i64 0, .int .i64 0, .int .i64 0, .int .i64 0, .int .i64 0, .int .i64 0, .string ⟨#[]⟩, .string ⟨#[]⟩, .int .i64 0, .slice none 0 0, .int .i64 0, .int .i64 0, .string ⟨#[]⟩, .bool false, .slice none 0 0] 57)).in_new (Nat.le_refl _) hm3; have hg3 := grown_new (World.grownBy_alloc w2 (.cells #[.int .i64 0, .int .i64 0, .int .i64 0, .int .i64 0, .int .i64 0, .int .i64 0, .int .i64 0, .int .i64 0, .string ⟨#[]⟩, .string ⟨#[]⟩, .int .i64 0, .slice none 0 0, .int .i64 0, .int .i64 0, .string ⟨#[]⟩, .bool false, .slice none 0 0] 57) none) (Nat.le_refl _) hm3; have hJ3 := hJ.out ss w2 w3 none hJ2.out hg3 (fun r e => by cases e); have hIt3 := zH (hIt2.out.mod hm3' (fun h => h) (fun h => h)); have hk23 := zH (KeepsWalks.of_grownBy hg3 (fun j o hj => by cases hj)); have hsz3 := zH (show W.heap.size < w3.heap.size from Nat.lt_of_lt_of_le (by have := hs2.out; omega) hg3.size); obtain ⟨fn, tmps, assign, body, hy, hRd⟩ := hK.out ss x w3 hJ3 hlen.out (hR.out x hxR.out); dsimp only [rsV] at hy; clear hm3 hm3' hg3 hJ3; replace hRd := zH hRd)
    | (refine wpListIn_load_blk rfl 57 (.tmp 4) rfl w2.heap.size 0 rfl hb3 [.int .i64 x.r.i.r, .int .i64 x.r.i.n, .int .i64 x.r.bal, .int .i64 x.r.st, .int .i64 x.r.by_, .int .i64 x.r.e.o.c, .int .i64 x.r.e.o.s, .int .i64 x.r.e.o.k, .string (txt x.r.e.o.acct), .string (txt x.r.e.o.peer), .int .i64 x.r.e.o.sum, .slice x.L.a x.L.n x.L.c, .int .i64 x.r.e.o.per, .int .i64 x.r.e.o.hold, .string (txt x.r.e.o.note), .bool x.r.e.none, .slice x.D.a x.D.n x.D.c] rfl Tryz.underlying57 rfl rc_size ?_)
    | gi_in)
   refine hRd.out.mono ?_
   rintro e w4 ⟨rfl, hJ4, hk4⟩
   have hIt4 := zH (hIt3.out.of_walks hk4)
   have hlft : Hid (w4.rangeLeft b W.heap.size < wr.rangeLeft b W.heap.size) := zH (by
    obtain ⟨_, _, _, _, g1, _⟩ := hIt2.out
    have g3 := (g1.of_walks hk23.out).of_walks hk4
    rw [g3.left_eq, ← g1.left_eq]
    exact hml)
   have hsz4 := zH (show W.heap.size < w4.heap.size from Nat.lt_of_lt_of_le hsz3.out hk4.size)
   clear hml
   replace hJ4 := zH hJ4
   gi_wp2
   go_roundw
   case rel => exact ⟨ss ++ [x], R', hIt4.out, hP2.out, fun y hy => hR.out y (e2.out.mem_iff.1 (List.mem_cons_of_mem _ hy)), hsz4.out, hJ4.out⟩
   case measure => exact hlft.out
end Go.Proofs.YtfkfiokkjjnhiaaGreat
