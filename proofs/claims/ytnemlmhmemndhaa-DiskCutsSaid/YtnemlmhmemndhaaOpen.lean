/-
  Opening an argument's reading: what lies in memory where a slice of numbers, of bytes, of structs came in. No condition.
-/
import Derived.Test.YtnemlmhmemndhaaMem
import Derived.ProofKit
import Derived.OpenShut
import Derived.ChangeOld
import Derived.SizedLaws
import Derived.Deep.Slices
import Derived.Deep.Fields
namespace Go.Proofs.Ytnemlmhmemndhaa
set_option linter.unusedVariables false
open Go.RowKit Go.ChangeShapes Go.WideShapes Go.Deep

theorem list_choice {α : Type} (p : Nat → α → Prop) : ∀ n, (∀ i, i < n → ∃ e, p i e) → ∃ es : List α, es.length = n ∧ ∀ i e, es[i]? = some e → p i e := by
  intro n
  induction n with
  | zero => intro _; exact ⟨[], rfl, fun i e h => by simp at h⟩
  | succ n ih =>
    intro h
    obtain ⟨es, hl, he⟩ := ih fun i hi => h i (by omega)
    obtain ⟨x, hx⟩ := h n (by omega)
    refine ⟨es ++ [x], by simp [hl], fun i e hi => ?_⟩
    by_cases hin : i < es.length
    · rw [List.getElem?_append_left hin] at hi
      exact he i e hi
    · rw [List.getElem?_append_right (by omega)] at hi
      have : i = es.length := by
        rcases Nat.lt_or_ge (i - es.length) 1 with h1 | h1
        · omega
        · rw [List.getElem?_eq_none (by simpa using h1)] at hi; cases hi
      subst this
      simp at hi
      subst hi
      rw [hl]; exact hx

theorem flat_range' {α : Type} (f : α → List Value) (css : Nat → List Value) : ∀ (es : List α) (s : Nat), (∀ i e, es[i]? = some e → css (s + i) = f e) → (List.range' s es.length).flatMap css = es.flatMap f := by
  intro es
  induction es with
  | nil => intro _ _; rfl
  | cons x es ih =>
    intro s h
    rw [List.length_cons, List.range'_succ, List.flatMap_cons, List.flatMap_cons, ih (s + 1) fun i e hi => by
      have := h (i + 1) e (by simpa using hi)
      rw [← this]; congr 1; omega]
    rw [← h 0 x (by simp)]
    rfl
theorem flat_range {α : Type} (f : α → List Value) (css : Nat → List Value) (es : List α) (h : ∀ i e, es[i]? = some e → css i = f e) : (List.range es.length).flatMap css = es.flatMap f := by
  rw [List.range_eq_range']
  exact flat_range' f css es 0 fun i e hi => by rw [Nat.zero_add]; exact h i e hi

section
variable {H : Type} {enc : TypeId × Value → H} {P : Program} {w : World} {held : Bool}

/-- What the form's own reach says of a datum. -/
def Wd (P : Program) (t : TypeId) (d : DataW H) : Prop := ∀ n ∈ d.weights P t, n ≤ 140737488351232
theorem wd_arg {ts : List TypeId} {ds : List (DataW H)} (h : (DataW.weightsEach P ts ds).all (· ≤ reachBytes) = true) {j : Nat} {t : TypeId} {d : DataW H} (ht : ts[j]? = some t) (hd : ds[j]? = some d) : Wd P t d := by
  intro n hn
  have := List.all_eq_true.1 h _ (DataW.weights_mem_each ht hd n hn)
  have e : reachBytes = 140737488351232 := by decide
  simpa [e] using this
theorem wd_each {ts : List TypeId} {ds : List (DataW H)} (h : ∀ n ∈ DataW.weightsEach P ts ds, n ≤ 140737488351232) {j : Nat} {t : TypeId} {d : DataW H} (ht : ts[j]? = some t) (hd : ds[j]? = some d) : Wd P t d :=
  fun n hn => h n (DataW.weights_mem_each ht hd n hn)
theorem weights_mem_all {e : TypeId} : ∀ {l : List (DataW H)} {d : DataW H}, d ∈ l → ∀ n ∈ d.weights P e, n ∈ DataW.weightsAll P e l := by
  intro l
  induction l with
  | nil => intro d h; cases h
  | cons x l ih =>
    intro d h n hn
    simp only [DataW.weightsAll, List.mem_append]
    rcases List.mem_cons.1 h with rfl | h
    · exact .inl hn
    · exact .inr (ih h n hn)
theorem wd_slice {t e : TypeId} {elems spare : List (DataW H)} (hu : P.underlying t = some (.slice e)) (h : Wd P t (.slice elems spare)) :
    (elems.length + spare.length) * P.bytesOf e ≤ 140737488351232 ∧ (∀ d ∈ elems, Wd P e d) := by
  refine ⟨h _ (by simp [DataW.weights, hu]), fun d hd n hn => h n ?_⟩
  simp only [DataW.weights, hu, List.mem_cons, List.mem_append]
  exact .inr (.inl (weights_mem_all hd n hn))
theorem wd_struct {t : TypeId} {fs : Array Field} {parts : List (DataW H)} (hu : P.underlying t = some (.struct fs)) (h : Wd P t (.agg parts)) {j : Nat} {f : Field} {d : DataW H} (hf : fs[j]? = some f) (hd : parts[j]? = some d) : Wd P f.type d := by
  refine wd_each (ts := fs.toList.map (·.type)) (ds := parts) (fun n hn => h n ?_) (j := j) (by simp [hf]) hd
  simp only [DataW.weights, hu]
  exact hn

/-- What is known of a slice that came in: its cells, its bounds, where it lies. -/
def Came (w : World) (size bytes : Nat) (A : Option Addr) (n c : Nat) (xs : List Value) : Prop :=
  Rd w size A n xs ∧ n ≤ c ∧ c ≤ 9223372036854775807 ∧ c * bytes ≤ 140737488351232 ∧ (0 < n → ∀ k, fp A k → k < w.heap.size)

/-- A slice of whatever elements. -/
theorem open_any {t e : TypeId} {fuel k : Nat} {cs : List Value} {x : DataW H × List MemPlace} (ht : P.underlying t = some (.slice e)) (hk : P.cellsOf e = k) (hk0 : 0 < k)
    (h : DataW.trod enc P w 0 (fun _ => true) held fuel t cs = some x) (hw : Wd P t x.1) :
    ∃ (A : Option Addr) (n c : Nat) (css : Nat → List Value) (D : Nat → DataW H), cs = [.slice A n c] ∧ Came w k (P.bytesOf e) A n c ((List.range n).flatMap css) ∧
      ∀ i, i < n → (css i).length = k ∧ Wd P e (D i) ∧ ∃ m pl, DataW.trod enc P w 0 (fun _ => true) held m e (css i) = some (D i, pl) := by
  rcases open_slice ht h with ⟨rfl, rfl⟩ | ⟨a, len, cap, m, n, D, Pl, rfl, hb, hl, hm, hmm, rfl, hi⟩
  · exact ⟨none, 0, 0, fun _ => [], fun _ => .nil, rfl, ⟨Rd.none_, Nat.le_refl _, by omega, by omega, fun h => absurd h (by omega)⟩, fun i hi => absurd hi (by omega)⟩
  · simp only [if_true] at hmm
    subst hmm
    have hw2 := wd_slice ht hw
    simp only [List.length_map, List.length_range] at hw2
    have hch : ∀ i, i < m → ∃ cs', w.cells? 0 (a.add (i * P.cellsOf e)) (P.cellsOf e) = some cs' ∧ DataW.trod enc P w 0 (fun _ => true) held n e cs' = some (D i, Pl i) := hi
    obtain ⟨cl, hcl, hcp⟩ := list_choice _ m hch
    have hget : ∀ i, i < m → ∃ cs', cl[i]? = some cs' := fun i hi => ⟨_, List.getElem?_eq_getElem (by omega)⟩
    have hcell : ∀ i, i < m → ∀ cs', cl[i]? = some cs' → cs'.length = k ∧ ∀ j u, cs'[j]? = some u → w.cell? (a.add (i * k + j)) = some u := by
      intro i hi cs' hc
      obtain ⟨h1, _⟩ := hcp i cs' hc
      obtain ⟨_, hlen, hat⟩ := World.cells?_some h1
      rw [hk] at hlen hat
      refine ⟨hlen, fun j u hu => ?_⟩
      have hj : j < k := by
        rcases Nat.lt_or_ge j cs'.length with h2 | h2
        · omega
        · rw [List.getElem?_eq_none h2] at hu; cases hu
      rw [← add_of_add, hat j hj, hu]
    refine ⟨some a, len, m, fun i => (cl[i]?).getD [], D, rfl, ⟨⟨?_, fun _ => ⟨a, rfl, ?_⟩⟩, hl, by simpa [maxLen] using hm, ?_, ?_⟩, ?_⟩
    · have : ∀ q, q ≤ m → ((List.range q).flatMap fun i => (cl[i]?).getD []).length = q * k := by
        intro q
        induction q with
        | zero => intro _; simp
        | succ q ih =>
          intro hq
          obtain ⟨cs', hc⟩ := hget q (by omega)
          rw [List.range_succ, List.flatMap_append, List.length_append, ih (by omega), List.flatMap_singleton, hc, Option.getD_some, (hcell q (by omega) cs' hc).1, Nat.succ_mul]
      exact this len hl
    · have hlq : ∀ q, q ≤ m → ((List.range q).flatMap fun i => (cl[i]?).getD []).length = q * k := by
        intro q
        induction q with
        | zero => intro _; simp
        | succ q ih =>
          intro hq
          obtain ⟨cs', hc⟩ := hget q (by omega)
          rw [List.range_succ, List.flatMap_append, List.length_append, ih (by omega), List.flatMap_singleton, hc, Option.getD_some, (hcell q (by omega) cs' hc).1, Nat.succ_mul]
      have : ∀ q, q ≤ m → ∀ j u, ((List.range q).flatMap fun i => (cl[i]?).getD [])[j]? = some u → w.cell? (a.add j) = some u := by
        intro q
        induction q with
        | zero => intro _ j u hu; simp at hu
        | succ q ih =>
          intro hq j u hu
          obtain ⟨cs', hc⟩ := hget q (by omega)
          have hlen := hlq q (by omega)
          rw [List.range_succ, List.flatMap_append, List.flatMap_singleton, hc, Option.getD_some] at hu
          rcases Nat.lt_or_ge j (q * k) with hj | hj
          · rw [List.getElem?_append_left (by omega)] at hu
            exact ih (by omega) j u hu
          · rw [List.getElem?_append_right (by omega), hlen] at hu
            have := (hcell q (by omega) cs' hc).2 _ u hu
            rwa [show q * k + (j - q * k) = j by omega] at this
      exact this len hl
    · have := hw2.1
      rwa [show len + (m - len) = m by omega] at this
    · rintro h0 b ⟨a', ha', rfl⟩
      cases ha'
      obtain ⟨cs', hc⟩ := hget 0 (by omega)
      obtain ⟨h1, h2⟩ := hcell 0 (by omega) cs' hc
      obtain ⟨u, hu⟩ : ∃ u, cs'[0]? = some u := ⟨_, List.getElem?_eq_getElem (by omega)⟩
      have := h2 0 u hu
      rw [Nat.zero_mul, Nat.zero_add, add_zero_] at this
      exact World.block_lt_of_cell? w _ this
    · intro i hi
      obtain ⟨cs', hc⟩ := hget i (by omega)
      simp only [hc, Option.getD_some]
      refine ⟨(hcell i (by omega) cs' hc).1, ?_, n, Pl i, (hcp i cs' hc).2⟩
      apply hw2.2
      simp only [List.mem_map, List.mem_range]
      exact ⟨i, hi, rfl⟩

/-- A slice of integers. -/
theorem open_nums {t e : TypeId} {kk : IntKind} {fuel : Nat} {cs : List Value} {x : DataW H × List MemPlace} (ht : P.underlying t = some (.slice e)) (he : P.underlying e = some (.int kk)) (hk : P.cellsOf e = 1)
    (h : DataW.trod enc P w 0 (fun _ => true) held fuel t cs = some x) (hw : Wd P t x.1) :
    ∃ (A : Option Addr) (n c : Nat) (zs : List Int), cs = [.slice A n c] ∧ Came w 1 (P.bytesOf e) A n c (zs.map (.int kk ·)) ∧ ∀ z ∈ zs, (Lit.int kk z).wf = true := by
  obtain ⟨A, n, c, css, D, rfl, hc, hi⟩ := open_any ht hk (by omega) h hw
  have hch : ∀ i, i < n → ∃ z : Int, css i = [.int kk z] ∧ (Lit.int kk z).wf = true := by
    intro i hin
    obtain ⟨_, _, m, pl, htr⟩ := hi i hin
    obtain ⟨z, hz, _, hwf⟩ := DataW.trod_int he htr
    exact ⟨z, hz, hwf⟩
  obtain ⟨zs, hl, hz⟩ := list_choice _ n hch
  refine ⟨A, n, c, zs, rfl, ?_, ?_⟩
  · have e1 : (List.range n).flatMap css = zs.map (.int kk ·) := by
      rw [← hl, flat_range (fun z => [Value.int kk z]) css zs fun i e hie => (hz i e hie).1]
      clear hz hl
      induction zs with
      | nil => rfl
      | cons z zs ih => simp [List.flatMap_cons, ih]
    rwa [e1] at hc
  · intro z hm
    obtain ⟨i, hi1, hi2⟩ := List.getElem_of_mem hm
    exact (hz i z (by rw [List.getElem?_eq_getElem hi1, hi2])).2

/-- Bytes. -/
theorem open_bytes {t e : TypeId} {fuel : Nat} {cs : List Value} {x : DataW H × List MemPlace} (ht : P.underlying t = some (.slice e)) (he : P.underlying e = some (.int .u8)) (hk : P.cellsOf e = 1)
    (h : DataW.trod enc P w 0 (fun _ => true) held fuel t cs = some x) (hw : Wd P t x.1) :
    ∃ (A : Option Addr) (n c : Nat) (l : List UInt8), cs = [.slice A n c] ∧ Came w 1 (P.bytesOf e) A n c (bvs l) := by
  obtain ⟨A, n, c, zs, rfl, hc, hz⟩ := open_nums ht he hk h hw
  refine ⟨A, n, c, zs.map fun z => UInt8.ofNat z.toNat, rfl, ?_⟩
  have e1 : bvs (zs.map fun z => UInt8.ofNat z.toNat) = zs.map (.int .u8 ·) := by
    simp only [bvs, List.map_map]
    apply List.map_congr_left
    intro z hm
    have hb : 0 ≤ z ∧ z ≤ 255 := by simpa [Lit.wf, IntKind.min, IntKind.max, IntKind.signed, IntKind.bits] using hz z hm
    have : ((UInt8.ofNat z.toNat).toNat : Int) = z := by
      rw [UInt8.toNat_ofNat']
      omega
    simp only [Function.comp, bv, this]
  rwa [e1]

/-- A struct of one-cell fields. -/
theorem open_fields {t : TypeId} {fs : Array Field} {fuel : Nat} {cs : List Value} {x : DataW H × List MemPlace} (he : P.underlying t = some (.struct fs)) (hone : oneCellFields P fs = true) (hC : P.cellsOf t = fs.size)
    (h : DataW.trod enc P w 0 (fun _ => true) held fuel t cs = some x) (hw : Wd P t x.1) :
    cs.length = fs.size ∧ ∀ (j : Nat) (f : Field), fs[j]? = some f → ∃ (v : Value) (m : Nat) (y : DataW H × List MemPlace), cs[j]? = some v ∧ DataW.trod enc P w 0 (fun _ => true) held m f.type [v] = some y ∧ Wd P f.type y.1 := by
  obtain ⟨ys, n', _, rfl, hlen, hyl, hf⟩ := DataW.trod_struct he h
  refine ⟨by rw [hlen, hC], fun j f hj => ?_⟩
  obtain ⟨ho, hk⟩ := hone_of hone j f hj
  have hjl : j < fs.size := (Array.getElem?_eq_some_iff.1 hj).1
  have hv : cs[j]? = some (cs[j]'(by omega)) := List.getElem?_eq_getElem (by omega)
  have h1 := hf j f hj
  rw [ho, hk] at h1
  have hone' : (cs.drop j).take 1 = [cs[j]'(by omega)] := by
    rw [List.drop_eq_getElem_cons (by omega)]
    rfl
  rw [hone'] at h1
  have hys : ys[j]? = some (ys[j]'(by omega)) := List.getElem?_eq_getElem (by omega)
  refine ⟨_, n', _, hv, h1.trans hys, wd_struct he hw hj ?_⟩
  rw [List.getElem?_map, hys]
  rfl
end
end Go.Proofs.Ytnemlmhmemndhaa
