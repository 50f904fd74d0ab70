import Derived.Test.YtimlfdihodoolaaGreatZp1
import Derived.Test.YtimlfdihodoolaaGreatZp2
import Derived.Deep.MidRow
import Derived.Deep.LoopGhost
import Derived.Lib.SliceRun
import Derived.Shelf.SlIter.Collect
import Derived.Laws.CopyOwn
import Derived.Deep.OwnRows
import Derived.Test.YtimlfdihodoolaaGreatRows
import Derived.Lib.ConvBytes
/-
  Records in memory: rows of them. No condition.
-/
namespace Go.Proofs.YtimlfdihodoolaaGreat
set_option linter.unusedVariables false
set_option linter.unusedSimpArgs false
open Go.RowKit
/-- a message, and where its lists lie -/
structure Rs where
  r : Rc
  L : SV
  D : SV
def rsC (x : Rs) : List Value := [.int .i64 x.r.i.r, .int .i64 x.r.i.n, .int .i64 x.r.bal, .int .i64 x.r.st, .int .i64 x.r.by_, .int .i64 x.r.e.o.c, .int .i64 x.r.e.o.s, .int .i64 x.r.e.o.k, .string (txt x.r.e.o.acct), .string (txt x.r.e.o.peer), .int .i64 x.r.e.o.sum, .slice x.L.a x.L.n x.L.c, .int .i64 x.r.e.o.per, .int .i64 x.r.e.o.hold, .string (txt x.r.e.o.note), .bool x.r.e.none, .slice x.D.a x.D.n x.D.c]
def rss (xs : List Rs) : List Value := xs.flatMap rsC
theorem rss_length (xs : List Rs) : (rss xs).length = xs.length * 17 := flat_length _ 17 (fun _ => rfl) xs
theorem rss_append (C D : List Rs) : rss (C ++ D) = rss C ++ rss D := by unfold rss; rw [List.flatMap_append]
theorem rss_one (xs : List Rs) : ∀ u ∈ rss xs, u.oneCell' = true := by
  intro u hu
  unfold rss at hu
  rw [List.mem_flatMap] at hu
  obtain ⟨a, _, ha⟩ := hu
  simp only [rsC, List.mem_cons, List.not_mem_nil, or_false] at ha
  rcases ha with rfl | rfl | rfl | rfl | rfl | rfl | rfl | rfl | rfl | rfl | rfl | rfl | rfl | rfl | rfl | rfl | rfl <;> rfl
def RdR (w : World) (A : Option Addr) (n : Nat) (xs : List Rs) : Prop := Rd w 17 A n (rss xs)
def OwR (w : World) (A : Option Addr) (n c : Nat) (xs : List Rs) : Prop := Ow w 37 17 A n c (rss xs)
/-- what the lists of messages hold -/
def RsM (w : World) (xs : List Rs) : Prop := ∀ x ∈ xs, EnM w x.r.e x.L x.D
def zeroR : Value := .agg #[.int .i64 0, .int .i64 0, .int .i64 0, .int .i64 0, .int .i64 0, .int .i64 0, .int .i64 0, .int .i64 0, .string ⟨#[]⟩, .string ⟨#[]⟩, .int .i64 0, .slice none 0 0, .int .i64 0, .int .i64 0, .string ⟨#[]⟩, .bool false, .slice none 0 0]
theorem rcinfo : (Tryz.prog.info? 37).map (fun i => (i.zero, i.size, i.bytes)) = some (some zeroR, 17, 192) := by kernel_rfl
theorem appR {w : World} {ops : Array Oper} {rest : List Oper} {o : Oper} {a : Act} {Q : Exit → Act → World → Prop} (hgd : o.guard = none) (s x : Operand)
    (ho : o.op = .call { callee := .builtin .append, args := #[s, x], argTypes := #[41, 41] })
    {A : Option Addr} {n c : Nat} {xs : List Rs} (hs : a.eval s = .slice A n c) (hown : OwR w A n c xs)
    {S : Option Addr} {m d : Nat} {news : List Rs} (hx : a.eval x = .slice S m d) (hr : RdR w S m news) (hb : (n + m) * 192 ≤ 140737488355328)
    (h : ∀ A' c' w', OwR w' A' (n + m) c' (xs ++ news) → Mod (fp A) w w' → (A' = A ∨ A' = some ⟨w.heap.size, 0, none⟩) → wpList Tryz.prog ops Q rest (a.put o.dst (.slice A' (n + m) c')) w') : wpList Tryz.prog ops Q (o :: rest) a w := by
  obtain ⟨i0, hi, hz0, hz1, hz2⟩ := info_parts rcinfo
  refine wpList_append_ow hgd s x 41 ho 37 i0 _ 17 192 Tryz.underlying41 hi hz0 hz1 hz2 rfl (by omega) A n c (rss xs) hs hown S m d (rss news) hx hr (rss_one _) (by omega) (by omega) ?_
  intro A' c' w' h1
  rw [← rss_append] at h1
  exact h A' c' w' h1
theorem rdr_get {w : World} {A : Option Addr} {n : Nat} {xs : List Rs} (h : RdR w A n xs) {j : Nat} (hj : j < n) : ∃ b o x, A = some ⟨b, o, none⟩ ∧ x ∈ xs ∧ xs[j]? = some x ∧ w.rangeAt b (o + j * 17) (rsC x) := by
  have hl : xs.length = n := by have := h.1; rw [rss_length] at this; omega
  obtain ⟨b, o, e, hc⟩ := Rd.form h (show 0 < n by omega) (by omega)
  have hjl : j < xs.length := by omega
  have hg := flat_get rsC 17 (fun _ => rfl) xs j xs[j] (List.getElem?_eq_getElem hjl)
  refine ⟨b, o, xs[j], e, List.getElem_mem hjl, List.getElem?_eq_getElem hjl, fun i v hv => ?_⟩
  have hi : i < 17 := by
    rcases Nat.lt_or_ge i 17 with h1 | h1
    · exact h1
    · rw [List.getElem?_eq_none (by simpa [rsC] using h1)] at hv; cases hv
  rw [Nat.add_assoc]
  exact hc (j * 17 + i) v ((hg i hi).trans hv)
/-- what of a message Right asks to be so -/
def RsOk (x : Rs) : Prop := x.L.n ≤ 140737488355328 ∧ x.D.n ≤ 140737488355328 ∧ (Lit.int .i64 x.r.e.o.k).wf = true ∧ ∀ l ∈ x.r.e.o.legs, (txt l.n).size ≤ maxLen
/-- a message's lists lie elsewhere -/
def FarR (F : Nat → Prop) (x : Rs) : Prop := (0 < x.L.n → ∀ k, fp x.L.a k → ¬ F k) ∧ (0 < x.D.n → ∀ k, fp x.D.a k → ¬ F k)
theorem FarR.en {F : Nat → Prop} {x : Rs} {w w' : World} (hf : FarR F x) (h : EnM w x.r.e x.L x.D) (hm : Mod F w w') : EnM w' x.r.e x.L x.D :=
  ⟨⟨Rd.mod' h.od.rd hm hf.1, h.od.cap⟩, Rd.mod' h.rd hm hf.2, h.cap⟩
theorem FarR.mono {F G : Nat → Prop} {x : Rs} (hf : FarR F x) (h : ∀ k, G k → F k) : FarR G x := ⟨fun h0 k hk hg => hf.1 h0 k hk (h k hg), fun h0 k hk hg => hf.2 h0 k hk (h k hg)⟩
def FarsR (F : Nat → Prop) (xs : List Rs) : Prop := ∀ x ∈ xs, FarR F x
theorem RsM.mod {F : Nat → Prop} {xs : List Rs} {w w' : World} (h : RsM w xs) (hf : FarsR F xs) (hm : Mod F w w') : RsM w' xs := fun x hx => (hf x hx).en (h x hx) hm
theorem RsM.mod0 {xs : List Rs} {w w' : World} (h : RsM w xs) (hm : Mod none_ w w') : RsM w' xs := fun x hx => (h x hx).mod0 hm
/-- what lies below a place is far from what is new -/
theorem farR_new {w : World} {x : Rs} (h : EnM w x.r.e x.L x.D) {F : Nat → Prop} (hF : ∀ k, F k → w.heap.size ≤ k) : FarR F x := by
  have b1 : ∀ {n : Nat} {A : Option Addr} {xs : List Value}, Rd w 2 A n xs → 0 < n → ∀ k, fp A k → k < w.heap.size := by
    intro n A xs hr hn k hk
    obtain ⟨a, e, rfl⟩ := hk
    obtain ⟨b, o, e', hc⟩ := hr.form hn (by omega)
    have hl : 0 < xs.length := by rw [hr.1]; omega
    have := hc 0 _ (List.getElem?_eq_getElem hl)
    rw [e] at e'
    cases e'
    exact World.block_lt_of_cell? w _ this
  exact ⟨fun h0 k hk hf => by have := b1 h.od.rd h0 k hk; have := hF k hf; omega, fun h0 k hk hf => by have := b1 h.rd h0 k hk; have := hF k hf; omega⟩
theorem farsR_new {w : World} {xs : List Rs} (h : RsM w xs) {F : Nat → Prop} (hF : ∀ k, F k → w.heap.size ≤ k) : FarsR F xs := fun x hx => farR_new (h x hx) hF
theorem rsC_len (x : Rs) : (rsC x).length = 17 := rfl
theorem rss_set : ∀ (ys : List Rs) (i : Nat) (x : Rs), i < ys.length → rss (ys.set i x) = (rss ys).take (i * 17) ++ (rsC x ++ (rss ys).drop (i * 17 + 17)) := by
  intro ys
  induction ys with
  | nil => intro i x h; simp at h
  | cons y ys ih =>
    intro i x h
    cases i with
    | zero =>
      simp only [List.set_cons_zero, Nat.zero_mul, List.take_zero, List.nil_append, Nat.zero_add]
      show rsC x ++ rss ys = rsC x ++ (rsC y ++ rss ys).drop 17
      rw [List.drop_append, rsC_len, List.drop_of_length_le (by rw [rsC_len]; exact Nat.le_refl _)]
      simp
    | succ i =>
      simp only [List.length_cons] at h
      have := ih i x (by omega)
      show rsC y ++ rss (ys.set i x) = (rsC y ++ rss ys).take ((i + 1) * 17) ++ (rsC x ++ (rsC y ++ rss ys).drop ((i + 1) * 17 + 17))
      have e1 : (rsC y ++ rss ys).take ((i + 1) * 17) = rsC y ++ (rss ys).take (i * 17) := by
        rw [List.take_append, List.take_of_length_le (l := rsC y) (by rw [rsC_len]; omega), rsC_len, show (i + 1) * 17 - 17 = i * 17 by omega]
      have e2 : (rsC y ++ rss ys).drop ((i + 1) * 17 + 17) = (rss ys).drop (i * 17 + 17) := by
        rw [List.drop_append, List.drop_of_length_le (l := rsC y) (by rw [rsC_len]; omega), rsC_len, show (i + 1) * 17 + 17 - 17 = i * 17 + 17 by omega]
        simp
      rw [this, e1, e2]
      simp
theorem ow_setCells {w : World} {e : TypeId} {size n c g : Nat} {xs : List Value} (h : Ow w e size (some ⟨g, 0, none⟩) n c xs) (o : Nat) (vs : List Value) (ho : o + vs.length ≤ n * size) :
    Ow (w.setCells g o vs) e size (some ⟨g, 0, none⟩) n c (xs.take o ++ (vs ++ xs.drop (o + vs.length))) := by
  obtain ⟨h1, h2, h3, h4⟩ := h
  rcases h4 with ⟨h4, _⟩ | ⟨g', cur, h4, hb, h5, h6⟩
  · cases h4
  · cases h4
    have hns : n * size ≤ cur.size := Nat.le_trans (Nat.mul_le_mul_right _ h2) h5
    have hsz := setL_toList vs cur o (by omega)
    refine ⟨by simp only [List.length_append, List.length_take, List.length_drop]; omega, h2, h3, .inr ⟨g, _, rfl, Blk.setCells _ _ _ _ hb, ?_, ?_⟩⟩
    · have : (setL cur o vs).size = cur.size := by
        rw [← Array.length_toList, hsz]
        simp only [List.length_append, List.length_take, List.length_drop, Array.length_toList]; omega
      rw [this]; exact h5
    · rw [hsz, ← h6]
      apply List.ext_getElem?
      intro i
      have m1 : min o cur.size = o := by omega
      have m2 : min o (min (n * size) cur.size) = o := by omega
      by_cases hi : i < n * size
      · simp only [List.getElem?_take, List.getElem?_append, List.length_take, List.getElem?_drop, Array.length_toList, m1, m2, if_pos hi]
        by_cases c1 : i < o
        · simp only [if_pos c1]
        · simp only [if_neg c1]
          by_cases c2 : i - o < vs.length
          · simp only [if_pos c2]
          · simp only [if_neg c2]
            rw [if_pos (by omega)]
      · rw [List.getElem?_take, if_neg hi, List.getElem?_eq_none]
        simp only [List.length_append, List.length_take, List.length_drop, Array.length_toList]; omega
theorem owM_set {w : World} {g n c : Nat} {ys : List Rs} (h : OwR w (some ⟨g, 0, none⟩) n c ys) {i : Nat} (hi : i < n) (x : Rs) : OwR (w.setCells g (i * 17) (rsC x)) (some ⟨g, 0, none⟩) n c (ys.set i x) := by
  have hl : ys.length = n := by have := h.1; rw [rss_length] at this; omega
  have := ow_setCells h (i * 17) (rsC x) (by rw [rsC_len]; omega)
  unfold OwR
  rw [rss_set ys i x (by omega)]
  exact this
theorem OwR.len {w : World} {A : Option Addr} {n c : Nat} {xs : List Rs} (h : OwR w A n c xs) : xs.length = n := by have := h.1; rw [rss_length] at this; omega
theorem OwR.take {w : World} {A : Option Addr} {n c : Nat} {xs : List Rs} (h : OwR w A n c xs) {k : Nat} (hk : k ≤ n) : OwR w A k c (xs.take k) := by
  have := Ow.take_ h hk
  have e : (rss xs).take (k * 17) = rss (xs.take k) := by
    have h0 : rss xs = rss (xs.take k) ++ rss (xs.drop k) := by rw [← rss_append, List.take_append_drop]
    rw [h0]
    have hl : (rss (xs.take k)).length = k * 17 := by rw [rss_length, List.length_take, h.len, Nat.min_eq_left hk]
    rw [List.take_append, hl, List.take_of_length_le (by omega)]
    simp
  rw [e] at this
  exact this
theorem rss_take (xs : List Rs) (k : Nat) (hk : k ≤ xs.length) : (rss xs).take (k * 17) = rss (xs.take k) := by
  have h0 : rss xs = rss (xs.take k) ++ rss (xs.drop k) := by rw [← rss_append, List.take_append_drop]
  rw [h0]
  have hl : (rss (xs.take k)).length = k * 17 := by rw [rss_length, List.length_take, Nat.min_eq_left hk]
  rw [List.take_append, hl, List.take_of_length_le (by omega)]
  simp
theorem rss_drop (xs : List Rs) (k : Nat) (hk : k ≤ xs.length) : (rss xs).drop (k * 17) = rss (xs.drop k) := by
  have h0 : rss xs = rss (xs.take k) ++ rss (xs.drop k) := by rw [← rss_append, List.take_append_drop]
  rw [h0]
  have hl : (rss (xs.take k)).length = k * 17 := by rw [rss_length, List.length_take, Nat.min_eq_left hk]
  rw [List.drop_append, hl, List.drop_of_length_le (by omega)]
  simp
theorem RdR.len {w : World} {A : Option Addr} {n : Nat} {xs : List Rs} (h : RdR w A n xs) : xs.length = n := by have := h.1; rw [rss_length] at this; omega
theorem rdR_take {w : World} {A : Option Addr} {n : Nat} {xs : List Rs} (h : RdR w A n xs) {k : Nat} (hk : k ≤ n) : RdR w A k (xs.take k) := by
  have := Rd.take_ h hk
  rw [rss_take xs k (by rw [h.len]; exact hk)] at this
  exact this
theorem rdR_drop {w : World} {A : Option Addr} {n c : Nat} {xs : List Rs} (h : RdR w A n xs) {k : Nat} (hk : k ≤ n) (hc : n ≤ c) : RdR w (if c = k then A else A.map (·.add (k * 17))) (n - k) (xs.drop k) := by
  have := Rd.drop_ h hk hc
  rw [rss_drop xs k (by rw [h.len]; exact hk)] at this
  exact this
theorem step_appR {w : World} {ops : Array Oper} {o : Oper} {a : Act} {K : Act → World → Prop} {Q : Exit → Act → World → Prop} {E : Prop} (hgd : o.guard = none) (s x : Operand)
    (ho : o.op = .call { callee := .builtin .append, args := #[s, x], argTypes := #[41, 41] })
    {A : Option Addr} {n c : Nat} {xs : List Rs} (hs : a.eval s = .slice A n c) (hown : OwR w A n c xs)
    {S : Option Addr} {m d : Nat} {news : List Rs} (hx : a.eval x = .slice S m d) (hr : RdR w S m news) (hb : (n + m) * 192 ≤ 140737488355328)
    (h : ∀ A' c' w', OwR w' A' (n + m) c' (xs ++ news) → Mod (fp A) w w' → (A' = A ∨ A' = some ⟨w.heap.size, 0, none⟩) → K (a.put o.dst (.slice A' (n + m) c')) w') : if Region.wanted o (yielded ops a.tmps) = true then Oper.wp Tryz.prog o a w K Q else E := by
  obtain ⟨i0, hi, hz0, hz1, hz2⟩ := info_parts rcinfo
  refine step_append_ow hgd s x 41 ho 37 i0 _ 17 192 Tryz.underlying41 hi hz0 hz1 hz2 rfl (by omega) A n c (rss xs) hs hown S m d (rss news) hx hr (rss_one _) (by omega) (by omega) ?_
  intro A' c' w' h1
  rw [← rss_append] at h1
  exact h A' c' w' h1
theorem rdR_one (w : World) (x : Rs) : RdR (w.alloc (.cells #[.int .i64 x.r.i.r, .int .i64 x.r.i.n, .int .i64 x.r.bal, .int .i64 x.r.st, .int .i64 x.r.by_, .int .i64 x.r.e.o.c, .int .i64 x.r.e.o.s, .int .i64 x.r.e.o.k, .string (txt x.r.e.o.acct), .string (txt x.r.e.o.peer), .int .i64 x.r.e.o.sum, .slice x.L.a x.L.n x.L.c, .int .i64 x.r.e.o.per, .int .i64 x.r.e.o.hold, .string (txt x.r.e.o.note), .bool x.r.e.none, .slice x.D.a x.D.n x.D.c] 37)) (some ⟨w.heap.size, 0, none⟩) 1 [x] :=
  rdn w 37 17 1 w.heap.size #[.int .i64 x.r.i.r, .int .i64 x.r.i.n, .int .i64 x.r.bal, .int .i64 x.r.st, .int .i64 x.r.by_, .int .i64 x.r.e.o.c, .int .i64 x.r.e.o.s, .int .i64 x.r.e.o.k, .string (txt x.r.e.o.acct), .string (txt x.r.e.o.peer), .int .i64 x.r.e.o.sum, .slice x.L.a x.L.n x.L.c, .int .i64 x.r.e.o.per, .int .i64 x.r.e.o.hold, .string (txt x.r.e.o.note), .bool x.r.e.none, .slice x.D.a x.D.n x.D.c] (0, 0) rfl rfl
theorem rc_size : (Tryz.prog.info? 37).map (·.size) = some 17 := by kernel_rfl
end Go.Proofs.YtimlfdihodoolaaGreat
/-
  slices.Collect of records that an iterator gives; maps.Values of a map of records by Inst. No condition.
-/
namespace Go.Proofs.YtimlfdihodoolaaGreat
set_option linter.unusedVariables false
set_option linter.unusedSimpArgs false
open Go.RowKit Go.Sort Go.Shelf
def rsV (x : Rs) : Value := .agg #[.int .i64 x.r.i.r, .int .i64 x.r.i.n, .int .i64 x.r.bal, .int .i64 x.r.st, .int .i64 x.r.by_, .int .i64 x.r.e.o.c, .int .i64 x.r.e.o.s, .int .i64 x.r.e.o.k, .string (txt x.r.e.o.acct), .string (txt x.r.e.o.peer), .int .i64 x.r.e.o.sum, .slice x.L.a x.L.n x.L.c, .int .i64 x.r.e.o.per, .int .i64 x.r.e.o.hold, .string (txt x.r.e.o.note), .bool x.r.e.none, .slice x.D.a x.D.n x.D.c]
def mapM (M : List Rs) : List InstV := M.map fun x => (x.r.i, rsV x)
theorem grown_of_mod {w w' : World} {g : Nat} (h : Mod (only g) w w') : w.grownBy w' (some g) := ⟨h.os, h.tape, h.output, h.size, fun k hk hne => h.block k hk (fun hh => hne (by have : k = g := hh; rw [this]))⟩
theorem keeps_of_mod {w w' : World} {g : Nat} {t : TypeId} {cs : Array Value} (h : Mod (only g) w w') (hb : Blk w g t cs) : KeepsWalks w w' :=
  KeepsWalks.of_grownBy (grown_of_mod h) (fun j o hj ho => by cases hj; rw [hb] at ho; cases ho; rfl)
theorem wpListIn_store_blk {F : Fence} {n : Nat} {P : Program} {ops : Array Oper} {rest : List Oper} {op : Oper} {a : Act} {w : World} {Q : Exit → Act → World → Prop} (hgd : op.guard = none) (ty : TypeId) (x y : Operand) (ho : op.op = .store ty x y)
    (g o : Nat) (cells : Array Value) (hx : a.eval x = .pointer (some ⟨g, o, none⟩)) (hy : a.eval y = .agg cells) {t : TypeId} {cs : Array Value} (hb : Blk w g t cs) (hn : o + cells.size ≤ cs.size)
    (hi : (P.info? ty).map (·.size) = some cells.size) (h1 : cells.toList.all (·.oneCell') = true) (cs' : Array Value) (hcs : cs.toList.take o ++ (cells.toList ++ cs.toList.drop (o + cells.size)) = cs'.toList)
    (h : ∀ w', Blk w' g t cs' → Mod (only g) w w' → wpListIn F n P ops Q rest (a.put op.dst undef) w') : wpListIn F n P ops Q (op :: rest) a w := by
  refine wpListIn_plain hgd fun K hK' => ?_
  have hrun := run_storeAt_mid (P := P) w g o ty cells (hb.there o _ hn) hi (by rw [← Array.all_toList]; exact h1)
  unfold Oper.wpIn
  refine ⟨?_, ?_⟩
  · simp [Oper.about, ho]
  · rw [Oper.semAt_plain F _ _ (by rw [ho]; intro c hc'; cases hc')]
    simp [execOp, ho, hx, hy, hrun, Result.andThen]
    exact hK' _ _ (h _ (by have e := setL_toList cells.toList cs o (by simpa using hn); rw [Array.length_toList, hcs, Array.toList_inj] at e; rw [← e]; exact Blk.setCells _ _ _ _ hb) (Mod.setCells _ _ _ _ (Mod.refl _ w) rfl))
theorem wpListIn_load_blk {F : Fence} {n : Nat} {P : Program} {ops : Array Oper} {rest : List Oper} {op : Oper} {a : Act} {w : World} {Q : Exit → Act → World → Prop} (hgd : op.guard = none) (ty : TypeId) (x : Operand) (ho : op.op = .load ty x)
    (g o : Nat) (hx : a.eval x = .pointer (some ⟨g, o, none⟩)) {t : TypeId} {cs : Array Value} (hb : Blk w g t cs) (vs : List Value) (hv : (cs.toList.drop o).take vs.length = vs) {d : TypeDesc} (hu : P.underlying ty = some d) (hd : d.isRow = true)
    (hi : (P.info? ty).map (·.size) = some vs.length) (h : wpListIn F n P ops Q rest (a.put op.dst (.agg vs.toArray)) w) : wpListIn F n P ops Q (op :: rest) a w := by
  refine wpListIn_plain hgd fun K hK' => ?_
  have hrun := run_loadAt_mid (P := P) w g o ty vs d (hb.range o vs hv) hu hd hi
  unfold Oper.wpIn
  refine ⟨?_, ?_⟩
  · simp [Oper.about, ho]
  · rw [Oper.semAt_plain F _ _ (by rw [ho]; intro c hc'; cases hc')]
    simp [execOp, ho, hx, hrun, Result.andThen]
    exact hK' _ _ h
/-! ### the iterator -/
theorem ItK.of_walks {w w' : World} {b r : Nat} {L R : List InstV} (h : ItK w b r L R) (hk : KeepsWalks w w') : ItK w' b r L R := by
  obtain ⟨n, D, left, cnt, h1, h2, h3⟩ := h
  exact ⟨n, D, left, cnt, h1.of_walks hk, h2, h3⟩
theorem ItK.iter_walk {w : World} {b r : Nat} {L R : List InstV} (h : ItK w b r L R) : ∃ o : Obj, w.heap[r]? = some o ∧ o.isWalk = true := by
  obtain ⟨n, D, left, cnt, h1, _⟩ := h
  exact h1.iter_walk
theorem grown_new {w w1 w' : World} (h1 : w.grownBy w1 none) {g : Nat} (hg : w.heap.size ≤ g) (h : Mod (only g) w1 w') : w.grownBy w' none :=
  ⟨h.os.trans h1.os, h.tape.trans h1.tape, h.output.trans h1.output, Nat.le_trans h1.size h.size, fun k hk _ => (h.block k (Nat.lt_of_lt_of_le hk h1.size) (fun hh => by have : k = g := hh; omega)).trans (h1.block k hk (by simp))⟩
theorem mapM_drop {M : List Rs} {x : Rs} (hn : (mapM M).Pairwise fun p q => p.1 ≠ q.1) (h : x ∈ M) : ∃ M', dropI x.r.i (mapM M) = mapM M' ∧ (x :: M').Perm M := by
  induction M with
  | nil => cases h
  | cons y M ih =>
    obtain ⟨h1, h2⟩ := List.pairwise_cons.1 hn
    by_cases he : y.r.i = x.r.i
    · have hxy : x = y := by
        rcases List.mem_cons.1 h with h | h
        · exact h
        · exact absurd he (h1 _ (List.mem_map.2 ⟨x, h, rfl⟩))
      subst hxy
      refine ⟨M, ?_, List.Perm.refl _⟩
      show dropI x.r.i ((x.r.i, rsV x) :: mapM M) = _
      unfold dropI
      rw [List.filter_cons_of_neg (by simp), List.filter_eq_self]
      intro q hq
      have := h1 q hq
      simpa using fun e => this e.symm
    · have hx : x ∈ M := by
        rcases List.mem_cons.1 h with h | h
        · subst h; exact absurd rfl he
        · exact h
      obtain ⟨M', e1, e2⟩ := ih h2 hx
      refine ⟨y :: M', ?_, (List.Perm.swap y x M').trans (e2.cons y)⟩
      show dropI x.r.i ((y.r.i, rsV y) :: mapM M) = _
      unfold dropI
      rw [List.filter_cons_of_pos (by simpa using he)]
      show _ :: dropI x.r.i (mapM M) = _
      rw [e1] <;> rfl
set_option maxRecDepth 100000 in
set_option maxHeartbeats 4000000 in
theorem values1_in (F : Fence) (n : Nat) (hF : F.fn 65) (hro : F.round = none) (hn : 1 ≤ n) (l Bm b : Nat) (M : List Rs) (J : List Rs → World → Prop)
    (hY : ∀ pre x W, J pre W → pre.length < M.length → x ∈ M → YieldAt F (n - 1) Tryz.prog l #[rsV x] W fun e W' => e = .returned (.bool true) ∧ J (pre ++ [x]) W' ∧ KeepsWalks W W')
    (W : World) (hJ : AbidesFrom W.heap.size J) (hm : W.cell? ⟨Bm, 0, none⟩ = some (.map (some b))) (hown : MapK W b (mapM M)) (h0 : J [] W) :
    CallsIn F n Tryz.prog 65 #[.func (.yield l) #[] #[], .pointer (some ⟨Bm, 0, none⟩)] W fun e W' => (∃ v, e = .returned v) ∧ ∃ ss : List Rs, ss.Perm M ∧ J ss W' := by
  obtain ⟨D, ho1, ho2⟩ := hown.tight
  refine callsIn_of_wp Tryz.func65 rfl hF ?_ hro
  simp only [Tryz.ntmps65, List.size_toArray, List.length_cons, List.length_nil, Nat.reduceAdd, Nat.reduceSub, Array.replicate_succ, Array.replicate_zero, List.push_toArray, List.append_toArray, List.nil_append, List.cons_append]
  have hK := Lib.hid (hY)
  replace hY := Lib.hid hY
  replace hJ := Lib.hid hJ
  replace h0 := Lib.hid h0
  replace ho2 := Lib.hid ho2
  replace hown := Lib.hid hown
  gi_wp2_with (first
    | (gi_at_range; refine wpListIn_range_own _ rfl _ 81 rfl 25 37 instKeyed Tryz.underlying81 VR b _ _ rfl ho1 ?_; intro w0 hrg0 hg0 hs0)
    | gi_in)
  go_frame
  have hIt0 : ItK w0 b W.heap.size (mapM M) (mapM M) := ⟨_, D, _, _, hrg0, ho2.out, by
    symm
    rw [List.filter_eq_self]
    intro p hp
    rw [ho2.out.has p.1 (ho2.out.wf p hp), findI_of_mem ho2.out.nodup (show (p.1, p.2) ∈ mapM M from hp)] <;> rfl⟩
  have hnd := Lib.hid ho2.out.nodup
  have hJ0 := Lib.hid (hJ.out [] W w0 none h0.out hg0 (fun r e => by cases e))
  have hsz0 := Lib.hid (show W.heap.size < w0.heap.size by rw [hs0]; omega)
  clear hrg0 hg0 ho1 hs0
  replace hIt0 := Lib.hid hIt0
  gi_loopw [4] (fun _ wr => ∃ (ss R : List Rs), ItK wr b W.heap.size (mapM M) (mapM R) ∧ (ss ++ R).Perm M ∧ (∀ x ∈ R, x ∈ M) ∧ W.heap.size < wr.heap.size ∧ J ss wr)
    (fun _ wr => wr.rangeLeft b W.heap.size)
  case atStart =>
    exact ⟨[], M, hIt0.out, by simp, fun x hx => hx, hsz0.out, hJ0.out⟩
  case round =>
    obtain ⟨ss, R, hIt, hP, hR, hsz, hJs⟩ := hrel
    rcases hIt.next 0 with ⟨hR0, hrun⟩ | ⟨p, w2, hpR, hpM, hIt2, ⟨hle, hml⟩, hm2, hs2, hrun, hen⟩
    · have hR0' : R = [] := by cases R with | nil => rfl | cons y R => cases hR0
      subst hR0'
      rw [List.append_nil] at hP
      replace hP := Lib.hid hP
      replace hJs := Lib.hid hJs
      clear hIt hR
      gi_wp2
      go_end0
      exact ⟨⟨_, rfl⟩, ss, hP.out, hJs.out⟩
    · obtain ⟨x, hxR, rfl⟩ := List.mem_map.1 hpR
      have hRn : (mapM R).Pairwise fun p q => p.1 ≠ q.1 := by
        have hsub : (mapM R).length = R.length := by simp [mapM]
        obtain ⟨n', D', left, cnt, _, hr2, hr3⟩ := hIt
        rw [hr3]; exact hr2.nodup.filter _
      obtain ⟨R', e1, e2⟩ := mapM_drop hRn hxR
      simp only at hIt2 hrun hen hle
      rw [e1] at hIt2 hle
      have hP2 : (ss ++ [x] ++ R').Perm M := by
        rw [List.append_assoc]
        exact (List.Perm.append_left ss e2).trans hP
      have hlen : ss.length < M.length := by
        have := hP2.length_eq
        simp at this; omega
      have hg2 : wr.grownBy w2 (some W.heap.size) := grown_of_mod (hm2.mono (fun i hi => hi))
      have hJ2 := hJ.out ss wr w2 _ hJs hg2 (fun r e => by cases e; exact ⟨Nat.le_refl _, hIt.iter_walk⟩)
      have hz := Lib.hid (Blk.new w2 37 #[.int .i64 0, .int .i64 0, .int .i64 0, .int .i64 0, .int .i64 0, .int .i64 0, .int .i64 0, .int .i64 0, .string ⟨#[]⟩, .string ⟨#[]⟩, .int .i64 0, .slice none 0 0, .int .i64 0, .int .i64 0, .string ⟨#[]⟩, .bool false, .slice none 0 0])
      unfold rsV at hrun hen
      replace hP := Lib.hid hP
      replace hP2 := Lib.hid hP2
      replace hJs := Lib.hid hJs
      replace hJ2 := Lib.hid hJ2
      replace hlen := Lib.hid hlen
      replace hR := Lib.hid hR
      replace hxR := Lib.hid hxR
      replace e2 := Lib.hid e2
      replace hIt := Lib.hid hIt
      replace hIt2 := Lib.hid hIt2
      replace hRn := Lib.hid hRn
      replace hm2 := Lib.hid hm2
      replace hs2 := Lib.hid hs2
      replace hg2 := Lib.hid hg2
      replace hle := Lib.hid hle
      replace hpR := Lib.hid hpR
      replace hpM := Lib.hid hpM
      gi_wp2_with (first
        | (refine wpListIn_store_blk rfl 37 (.tmp 4) (.tmp 10) rfl w2.heap.size 0 _ rfl rfl hz.out (by simp) rc_size (by rfl) #[.int .i64 x.r.i.r, .int .i64 x.r.i.n, .int .i64 x.r.bal, .int .i64 x.r.st, .int .i64 x.r.by_, .int .i64 x.r.e.o.c, .int .i64 x.r.e.o.s, .int .i64 x.r.e.o.k, .string (txt x.r.e.o.acct), .string (txt x.r.e.o.peer), .int .i64 x.r.e.o.sum, .slice x.L.a x.L.n x.L.c, .int .i64 x.r.e.o.per, .int .i64 x.r.e.o.hold, .string (txt x.r.e.o.note), .bool x.r.e.none, .slice x.D.a x.D.n x.D.c] rfl ?_; intro w3 hb3 hm3; have hm3' := ((Mod.refl none_ w2).alloc (.cells #[.int .i64 0, .int .i64 0, .int .i64 0, .int .i64 0, .int .i64 0, .int .i64 0, .int .i64 0, .int .i64 0, .string ⟨#[]⟩, .string ⟨#[]⟩, .int .i64 0, .slice none 0 0, .int .i64 0, .int .i64 0, .string ⟨#[]⟩, .bool false, .slice none 0 0] 37)).in_new (Nat.le_refl _) hm3; have hg3 := grown_new (World.grownBy_alloc w2 (.cells #[.int .i64 0, .int .i64 0, .int .i64 0, .int .i64 0, .int .i64 0, .int .i64 0, .int .i64 0, .int .i64 0, .string ⟨#[]⟩, .string ⟨#[]⟩, .int .i64 0, .slice none 0 0, .int .i64 0, .int .i64 0, .string ⟨#[]⟩, .bool false, .slice none 0 0] 37) none) (Nat.le_refl _) hm3; have hJ3 := hJ.out ss w2 w3 none hJ2.out hg3 (fun r e => by cases e); have hIt3 := Lib.hid (hIt2.out.mod hm3' (fun h => h) (fun h => h)); have hk23 := Lib.hid (KeepsWalks.of_grownBy hg3 (fun j o hj => by cases hj)); have hsz3 := Lib.hid (show W.heap.size < w3.heap.size from Nat.lt_of_lt_of_le (by have := hs2.out; omega) hg3.size); obtain ⟨fn, tmps, assign, body, hy, hRd⟩ := hK.out ss x w3 hJ3 hlen.out (hR.out x hxR.out); dsimp only [rsV] at hy; clear hm3 hm3' hg3 hJ3; replace hRd := Lib.hid hRd)
        | (refine wpListIn_load_blk rfl 37 (.tmp 4) rfl w2.heap.size 0 rfl hb3 [.int .i64 x.r.i.r, .int .i64 x.r.i.n, .int .i64 x.r.bal, .int .i64 x.r.st, .int .i64 x.r.by_, .int .i64 x.r.e.o.c, .int .i64 x.r.e.o.s, .int .i64 x.r.e.o.k, .string (txt x.r.e.o.acct), .string (txt x.r.e.o.peer), .int .i64 x.r.e.o.sum, .slice x.L.a x.L.n x.L.c, .int .i64 x.r.e.o.per, .int .i64 x.r.e.o.hold, .string (txt x.r.e.o.note), .bool x.r.e.none, .slice x.D.a x.D.n x.D.c] rfl Tryz.underlying37 rfl rc_size ?_)
        | gi_in)
      refine hRd.out.mono ?_
      rintro e w4 ⟨rfl, hJ4, hk4⟩
      have hIt4 := Lib.hid (hIt3.out.of_walks hk4)
      have hlft : Hid (w4.rangeLeft b W.heap.size < wr.rangeLeft b W.heap.size) := Lib.hid (by
        obtain ⟨_, _, _, _, g1, _⟩ := hIt2.out
        have g3 := (g1.of_walks hk23.out).of_walks hk4
        rw [g3.left_eq, ← g1.left_eq]
        exact hml)
      have hsz4 := Lib.hid (show W.heap.size < w4.heap.size from Nat.lt_of_lt_of_le hsz3.out hk4.size)
      clear hml
      replace hJ4 := Lib.hid hJ4
      gi_wp2
      go_roundw
      case rel => exact ⟨ss ++ [x], R', hIt4.out, hP2.out, fun y hy => hR.out y (e2.out.mem_iff.1 (List.mem_cons_of_mem _ hy)), hsz4.out, hJ4.out⟩
      case measure => exact hlft.out
end Go.Proofs.YtimlfdihodoolaaGreat
/-
  slices.AppendSeq, slices.Collect of records, against whatever iterator. No condition.
-/
namespace Go.Proofs.YtimlfdihodoolaaGreat
set_option linter.unusedVariables false
set_option linter.unusedSimpArgs false
open Go.RowKit Go.Sort Go.Shelf
attribute [local go_sem] Oper.semAt_some
def apAssignR : Code := (Code.region 2 #[{ dst := some 5, op := Op.alloc 37, type := 0, pos := "iter.go:51", after := #[], guard := none }, { dst := none, op := Op.store 37 (Operand.tmp 5) (Operand.tmp 7), type := 0, pos := "iter.go:51", after := #[{ on := 0, ground := Ground.data }, { on := 0, ground := Ground.phase }], guard := none }] false)
def apBodyR : Code := (Code.block 1 (Code.region 3 #[{ dst := some 8, op := Op.load 41 (Operand.tmp 2), type := 41, pos := "iter.go:52", after := #[], guard := none }, { dst := some 9, op := Op.load 37 (Operand.tmp 5), type := 37, pos := "iter.go:52", after := #[], guard := none }, { dst := some 10, op := Op.buildSlice 41 1 #[(0, Operand.tmp 9)], type := 41, pos := "iter.go:52", after := #[{ on := 1, ground := Ground.data }], guard := none }, { dst := some 11, op := Op.call { callee := Callee.builtin Builtin.append, args := #[Operand.tmp 8, Operand.tmp 10], argTypes := #[41, 41] }, type := 41, pos := "iter.go:52", after := #[{ on := 0, ground := Ground.data }, { on := 2, ground := Ground.data }], guard := none }, { dst := none, op := Op.store 41 (Operand.tmp 2) (Operand.tmp 11), type := 0, pos := "iter.go:52", after := #[{ on := 3, ground := Ground.data }, { on := 3, ground := Ground.chain }, { on := 0, ground := Ground.phase }, { on := 1, ground := Ground.phase }, { on := 2, ground := Ground.phase }, { on := 3, ground := Ground.phase }], guard := none }] false))
def apRecR (fn : FuncId) (sv : Value) (Bs D : Nat) (st : LoopState) (pend : Option Code) : Loop :=
  { state := st, pending := pend, fn, tmps := #[.slice none 0 0, sv, .pointer (some ⟨Bs, 0, none⟩), undef, .slice none 0 0, undef, sv, undef, undef, undef, undef, undef, undef], params := #[7], assign := apAssignR, body := apBodyR, defers := D }
/-- BETWEEN TWO ROUNDS: the box holds a slice that owns, in a block of the call's own, what has come so far; IT IS nil JUST AS LONG AS NOTHING HAS COME; nothing that lay before the call has turned. -/
structure ApAtR (w0 : World) (fn : FuncId) (sv : Value) (Bs l D : Nat) (ss : List Rs) (W : World) : Prop where
  box : ∃ v, W.heap[Bs]? = some (.cells #[v] 41 (0, 0)) ∧ W.ownsRow w0.heap.size 37 17 v ss.length (rss ss) ∧ (v = .slice none 0 0 ↔ ss = [])
  L : W.heap[l]? = some (.loop (apRecR fn sv Bs D .ready none))
  K : W.heap[D]? = some (.deferred (some []))
  below : Below w0.heap.size w0 W

theorem ap_abidesR (w0 : World) (fn : FuncId) (sv : Value) (Bs l D B : Nat) (hB : w0.heap.size ≤ B) : AbidesFrom B (ApAtR w0 fn sv Bs l D) := fun s W W' row h hg hrow => by
  have hrow' : ∀ r, row = some r → ∃ o : Obj, W.heap[r]? = some o ∧ o.isWalk = true := fun r e => (hrow r e).2
  obtain ⟨v, hv, hr, hn⟩ := h.box
  exact ⟨⟨v, (grownBy_keeps hg hrow' hv rfl).trans hv, ownsRow_abides_a hr hg hrow', hn⟩, (grownBy_keeps hg hrow' h.L rfl).trans h.L, (grownBy_keeps hg hrow' h.K rfl).trans h.K,
    h.below.grown hg h.below.size (fun k e => Nat.le_trans hB (hrow k e).1)⟩

set_option maxRecDepth 100000 in
set_option maxHeartbeats 2000000 in
theorem apYieldR (F : Fence) (m : Nat) (w0 : World) (fn : FuncId) (hfn : F.fn fn) (sv : Value) (Bs l D : Nat) (hBl : Bs ≠ l) (hDl : D ≠ l) (hDB : D ≠ Bs) (h0B : w0.heap.size ≤ Bs) (h0l : w0.heap.size ≤ l)
    (N : Nat) (hN : N ≤ maxLen) (hNb : N * 192 ≤ 140737488355328) (ss : List Rs) (x : Rs) (W : World) (h : ApAtR w0 fn sv Bs l D ss W) (hlen : ss.length < N) :
    YieldAt F m Tryz.prog l #[rsV x] W fun e W' => e = .returned (.bool true) ∧ ApAtR w0 fn sv Bs l D (ss ++ [x]) W' ∧ KeepsWalks W W' := by
  obtain ⟨i0, hi, hz0, hz1, hz2⟩ := info_parts rcinfo
  obtain ⟨v, hv, hrow, _⟩ := h.box
  refine ⟨fn, #[.slice none 0 0, sv, .pointer (some ⟨Bs, 0, none⟩), undef, .slice none 0 0, undef, sv, rsV x, undef, undef, undef, undef, undef], apAssignR, apBodyR, by simpa [apRecR] using run_yield (P := Tryz.prog) (args := #[rsV x]) h.L rfl, roundIn_of_wpIn hfn ?_⟩
  have hl : l < W.heap.size := (Array.getElem?_eq_some_iff.1 h.L).1
  have hz := Lib.hid (Blk.new W 37 #[.int .i64 0, .int .i64 0, .int .i64 0, .int .i64 0, .int .i64 0, .int .i64 0, .int .i64 0, .int .i64 0, .string ⟨#[]⟩, .string ⟨#[]⟩, .int .i64 0, .slice none 0 0, .int .i64 0, .int .i64 0, .string ⟨#[]⟩, .bool false, .slice none 0 0])
  have hB0 : Bs < W.heap.size := (Array.getElem?_eq_some_iff.1 hv).1
  have hD0 : D < W.heap.size := (Array.getElem?_eq_some_iff.1 h.K).1
  unfold apAssignR rsV
  gi_wp2_with (first
    | (refine wpListIn_store_blk rfl 37 (.tmp 5) (.tmp 7) rfl W.heap.size 0 _ rfl rfl hz.out (by simp) rc_size (by rfl) #[.int .i64 x.r.i.r, .int .i64 x.r.i.n, .int .i64 x.r.bal, .int .i64 x.r.st, .int .i64 x.r.by_, .int .i64 x.r.e.o.c, .int .i64 x.r.e.o.s, .int .i64 x.r.e.o.k, .string (txt x.r.e.o.acct), .string (txt x.r.e.o.peer), .int .i64 x.r.e.o.sum, .slice x.L.a x.L.n x.L.c, .int .i64 x.r.e.o.per, .int .i64 x.r.e.o.hold, .string (txt x.r.e.o.note), .bool x.r.e.none, .slice x.D.a x.D.n x.D.c] rfl ?_
       intro W1 hb1 hm1
       have hgn := grown_new (World.grownBy_alloc W (.cells #[.int .i64 0, .int .i64 0, .int .i64 0, .int .i64 0, .int .i64 0, .int .i64 0, .int .i64 0, .int .i64 0, .string ⟨#[]⟩, .string ⟨#[]⟩, .int .i64 0, .slice none 0 0, .int .i64 0, .int .i64 0, .string ⟨#[]⟩, .bool false, .slice none 0 0] 37) none) (Nat.le_refl _) hm1
       have hL1 : W1.heap[l]? = some (.loop (apRecR fn sv Bs D .ready none)) := (hgn.block l hl (by simp)).trans h.L
       have hbr := run_beginRound (P := Tryz.prog) hL1 rfl)
    | fail)
  have hv1 : W1.heap[Bs]? = some (.cells #[v] 41 (0, 0)) := (hgn.block Bs hB0 (by simp)).trans hv
  have hK1 : W1.heap[D]? = some (.deferred (some [])) := (hgn.block D hD0 (by simp)).trans h.K
  have hrow1 : W1.ownsRow w0.heap.size 37 17 v ss.length (rss ss) := hrow.kept hgn (Classical.em _)
  have hbb1 : Below w0.heap.size w0 W1 := h.below.grown hgn h.below.size (fun k e => by cases e)
  have hk1 : KeepsWalks W W1 := KeepsWalks.of_grownBy hgn (fun j o hj => by cases hj)
  obtain ⟨W2, hW2⟩ : ∃ W2, W1.putObj l (.loop { apRecR fn sv Bs D .ready none with state := .busy }) = W2 := ⟨_, rfl⟩
  rw [hW2] at hbr
  refine ⟨W2, hbr, ?_⟩
  have hg2 : W1.grownBy W2 (some l) := by rw [← hW2]; exact grownBy_putObj_a _ _ _
  have hk2 : KeepsWalks W W2 := hk1.trans (by rw [← hW2]; exact KeepsWalks.putObj _ hL1 rfl)
  have hb5 : Blk W2 W.heap.size 37 #[.int .i64 x.r.i.r, .int .i64 x.r.i.n, .int .i64 x.r.bal, .int .i64 x.r.st, .int .i64 x.r.by_, .int .i64 x.r.e.o.c, .int .i64 x.r.e.o.s, .int .i64 x.r.e.o.k, .string (txt x.r.e.o.acct), .string (txt x.r.e.o.peer), .int .i64 x.r.e.o.sum, .slice x.L.a x.L.n x.L.c, .int .i64 x.r.e.o.per, .int .i64 x.r.e.o.hold, .string (txt x.r.e.o.note), .bool x.r.e.none, .slice x.D.a x.D.n x.D.c] := by rw [← hW2]; exact (World.putObj_heap_other (by omega)).trans hb1
  have hv2 : W2.heap[Bs]? = some (.cells #[v] 41 (0, 0)) := by rw [← hW2]; exact (World.putObj_heap_other hBl).trans hv1
  have hK2 : W2.heap[D]? = some (.deferred (some [])) := by rw [← hW2]; exact (World.putObj_heap_other hDl).trans hK1
  have hL2 : W2.heap[l]? = some (.loop { apRecR fn sv Bs D .ready none with state := .busy }) := by rw [← hW2]; exact World.putObj_heap_same (Nat.lt_of_lt_of_le hl hgn.size)
  have hrow2 : W2.ownsRow w0.heap.size 37 17 v ss.length (rss ss) := hrow1.kept hg2 (ownsRow_ne_a hrow1 hL1 (fun cur e => by first | cases e | exact absurd (Obj.cells.inj e).2.1 (by decide)))
  have hb2 : Below w0.heap.size w0 W2 := hbb1.grown hg2 hbb1.size (fun k e => by cases e; exact h0l)
  obtain ⟨hc2, hf2⟩ := cell_of_box_a hv2
  have hBlt : Bs < W2.heap.size := (Array.getElem?_eq_some_iff.1 hv2).1
  have hl2 : l < W2.heap.size := (Array.getElem?_eq_some_iff.1 hL2).1
  have hDlt : D < W2.heap.size := (Array.getElem?_eq_some_iff.1 hK2).1
  have ne_of : ∀ {j : Nat} {o : Obj}, W2.heap[j]? = some o → (∀ cur, o ≠ .cells cur 37 (0, 0)) → some j ≠ v.ownBlock := fun hj hno => by
    rcases ownsRow_ne_a hrow2 hj hno with e | e
    · rw [e]; simp
    · exact fun e' => e e'.symm
  have hone := rdR_one W2 x
  unfold RdR rss at hone
  obtain ⟨hon1, hon2⟩ := hone
  obtain ⟨ad1, had1, hcell1⟩ := hon2 (by omega)
  cases had1
  have hrx : [x].flatMap rsC = rsC x := by simp
  rw [hrx] at hcell1
  clear hm1 hgn hz hv1 hK1 hrow1 hbb1 hk1 hL1 hb1 hbr hW2 hg2
  unfold apBodyR
  gi_wp2_with (first
    | (refine wpListIn_load_blk rfl 37 (.tmp 5) rfl W.heap.size 0 rfl hb5 [.int .i64 x.r.i.r, .int .i64 x.r.i.n, .int .i64 x.r.bal, .int .i64 x.r.st, .int .i64 x.r.by_, .int .i64 x.r.e.o.c, .int .i64 x.r.e.o.s, .int .i64 x.r.e.o.k, .string (txt x.r.e.o.acct), .string (txt x.r.e.o.peer), .int .i64 x.r.e.o.sum, .slice x.L.a x.L.n x.L.c, .int .i64 x.r.e.o.per, .int .i64 x.r.e.o.hold, .string (txt x.r.e.o.note), .bool x.r.e.none, .slice x.D.a x.D.n x.D.c] rfl Tryz.underlying37 rfl rc_size ?_)
    | (gi_at_builtin; refine wpListIn_append_own _ rfl _ _ 41 rfl w0.heap.size 37 i0 _ 17 192 Tryz.underlying41 hi hz0 hz1 hz2 rfl (by decide) _ _ _ rfl (hrow2.alloc _) ⟨W2.heap.size, 0, none⟩ 1 1 (rsC x) rfl rfl hcell1 (fun u hu => rss_one [x] u (by unfold rss; rw [hrx]; exact hu)) (by omega) (by omega) (by have := hb2.size; simp; omega) ?_; intro v' w3 hown' hg3 hnil3
       have hv3 : w3.heap[Bs]? = some (.cells #[v] 41 (0, 0)) := (hg3.block Bs (by simp; omega) (ne_of hv2 (fun cur e => by first | cases e | exact absurd (Obj.cells.inj e).2.1 (by decide)))).trans ((Below.heap_alloc _ _ Bs hBlt).trans hv2)
       obtain ⟨hc3, hf3⟩ := cell_of_box_a hv3
       obtain ⟨g', cap', cur', rfl, hbase', hgb', hr1, hr2, hr3, hr4⟩ : ∃ g' cap' cur', v' = .slice (some ⟨g', 0, none⟩) (ss.length + 1) cap' ∧ w0.heap.size ≤ g' ∧ w3.heap[g']? = some (.cells cur' 37 (0, 0)) ∧ ss.length + 1 ≤ cap' ∧ cap' ≤ maxLen ∧ cur'.size = cap' * 17 ∧ cur'.toList.take ((ss.length + 1) * 17) = rss ss ++ rsC x := by
         rcases hown'.2 with ⟨_, h0⟩ | h'
         · exact absurd h0 (by omega)
         · exact h'
       go_frame)
    | fail)
  have hg3' : (W2.alloc (.cells #[.int .i64 x.r.i.r, .int .i64 x.r.i.n, .int .i64 x.r.bal, .int .i64 x.r.st, .int .i64 x.r.by_, .int .i64 x.r.e.o.c, .int .i64 x.r.e.o.s, .int .i64 x.r.e.o.k, .string (txt x.r.e.o.acct), .string (txt x.r.e.o.peer), .int .i64 x.r.e.o.sum, .slice x.L.a x.L.n x.L.c, .int .i64 x.r.e.o.per, .int .i64 x.r.e.o.hold, .string (txt x.r.e.o.note), .bool x.r.e.none, .slice x.D.a x.D.n x.D.c] 37)).grownBy w3 v.ownBlock := hg3
  have hL3 : w3.heap[l]? = some (.loop { apRecR fn sv Bs D .ready none with state := .busy }) := (hg3'.block l (by simp; omega) (ne_of hL2 (fun cur e => by first | cases e | exact absurd (Obj.cells.inj e).2.1 (by decide)))).trans ((Below.heap_alloc _ _ l hl2).trans hL2)
  have hK3 : w3.heap[D]? = some (.deferred (some [])) := (hg3'.block D (by simp; omega) (ne_of hK2 (fun cur e => by first | cases e | exact absurd (Obj.cells.inj e).2.1 (by decide)))).trans ((Below.heap_alloc _ _ D hDlt).trans hK2)
  obtain ⟨w4, hw4⟩ : ∃ w4, w3.setCell ⟨Bs, 0, none⟩ (.slice (some ⟨g', 0, none⟩) (ss.length + 1) cap') = w4 := ⟨_, rfl⟩
  rw [hw4]
  have hg4 : w3.grownBy w4 (some Bs) := by rw [← hw4]; exact grownBy_setCell0_a _ _ _
  have hv4 : w4.heap[Bs]? = some (.cells #[.slice (some ⟨g', 0, none⟩) (ss.length + 1) cap'] 41 (0, 0)) := by rw [← hw4]; exact heap_setCell_box_a _ hv3
  have hL4 : w4.heap[l]? = some (.loop { apRecR fn sv Bs D .ready none with state := .busy }) := (hg4.block l (Array.getElem?_eq_some_iff.1 hL3).1 (fun e => hBl (by cases e; rfl))).trans hL3
  have hK4 : w4.heap[D]? = some (.deferred (some [])) := (hg4.block D (Array.getElem?_eq_some_iff.1 hK3).1 (fun e => hDB (by cases e; rfl))).trans hK3
  have hrow4 := hown'.kept hg4 (ownsRow_ne_a hown' hv3 (fun cur e => by first | cases e | exact absurd (Obj.cells.inj e).2.1 (by decide)))
  have hl4 : l < w4.heap.size := (Array.getElem?_eq_some_iff.1 hL4).1
  have hb3 : Below w0.heap.size w0 w3 := (hb2.alloc hb2.size _).grown hg3' (by have := hb2.size; simp; omega) (fun k e => (hrow2.lt k e).1)
  have hb4 : Below w0.heap.size w0 w4 := hb3.grown hg4 hb3.size (fun k e => by cases e; exact h0B)
  have hk4 : KeepsWalks W w4 := ((hk2.trans (KeepsWalks.alloc _ _)).trans (KeepsWalks.of_grownBy hg3' (ownsRow_not_walk_a (hrow2.alloc _)))).trans (by rw [← hw4]; exact KeepsWalks.setCell _ _ _)
  clear hw4
  refine ⟨_, _, run_endRound none hL4, rfl, ⟨⟨_, (World.putObj_heap_other hBl).trans hv4, ?_, by simp⟩, World.putObj_heap_same hl4, (World.putObj_heap_other hDl).trans hK4, hb4.grown (grownBy_putObj_a _ _ _) hb4.size (fun k e => by cases e; exact h0l)⟩, hk4.trans (KeepsWalks.putObj _ hL4 rfl)⟩
  have := hrow4.kept (grownBy_putObj_a w4 l (.loop { { apRecR fn sv Bs D .ready none with state := .busy } with state := if (none : Option Code).isNone then .ready else .done, pending := none })) (ownsRow_ne_a hrow4 hL4 (fun cur e => by first | cases e | exact absurd (Obj.cells.inj e).2.1 (by decide)))
  rw [show rss (ss ++ [x]) = rss ss ++ rsC x by rw [rss_append]; unfold rss; rw [hrx]]
  simpa using this


set_option maxRecDepth 100000 in
set_option maxHeartbeats 2000000 in
/-- **slices.AppendSeq(nil, seq), AGAINST WHATEVER ITERATOR VALUE THAT 'SeqGives'**: it hands back a slice that owns, in a block of the call's own, JUST WHAT THE ITERATOR GAVE, IN THAT ORDER; nil JUST WHERE IT GAVE NOTHING (as Go: 'slices.Collect' of nothing is nil); nothing that lay before the call has turned. -/
theorem appendSeqR_in (F : Fence) (n : Nat) (h11 : F.fn 84) (hro : F.round = none) (hn : 2 ≤ n) (g : Nat) (lb : Array Value) (hFg : F.fn g) (eg : ∀ args w, (callFunc g args).run Tryz.prog w = .ok (.enter g args) w)
    (S : List Rs → Prop) (N : Nat) (hN : N ≤ maxLen) (hNb : N * 192 ≤ 140737488355328) (w : World) (hseq : SeqGives F (n - 1) Tryz.prog g lb rsV S N w) :
    CallsIn F n Tryz.prog 84 #[.slice none 0 0, .func (.func g) #[] lb] w fun e w' => ∃ (v : Value) (ss : List Rs), e = .returned v ∧ S ss ∧ w'.ownsRow w.heap.size 37 17 v ss.length (rss ss) ∧ (v = .slice none 0 0 ↔ ss = []) ∧ Below w.heap.size w w' := by
  have h1 : 1 ≤ n := by omega
  refine callsIn_of_wp_marks Tryz.func84 rfl h11 ?_ hro
  simp only [Tryz.ntmps84, List.size_toArray, List.length_cons, List.length_nil, Nat.reduceAdd, Nat.reduceSub, Array.replicate_succ, Array.replicate_zero, List.push_toArray, List.append_toArray, List.nil_append, List.cons_append]
  gi_wp2
  refine wpIn_rangeFunc ?_
  intro fn hfn
  rw [hro]
  obtain ⟨W0, hW0⟩ : ∃ W0, w.alloc (.cells #[.slice none 0 0] 41) = W0 := ⟨_, rfl⟩
  have hs0 : W0.heap.size = w.heap.size + 1 := by rw [← hW0]; simp
  have hv0 : W0.heap[w.heap.size]? = some (.cells #[.slice none 0 0] 41 (0, 0)) := by rw [← hW0]; exact World.alloc_heap_new w _
  have hb0 : Below w.heap.size w W0 := by rw [← hW0]; exact (Below.refl _ w).alloc (Nat.le_refl _) _
  rw [hW0]
  obtain ⟨W1, hW1⟩ : ∃ W1, (W0.alloc (.deferred (some []))).alloc (.loop (apRecR fn (.func (.func g) #[] lb) w.heap.size W0.heap.size .ready none)) = W1 := ⟨_, rfl⟩
  have hold : ∀ k, k < W0.heap.size → W1.heap[k]? = W0.heap[k]? := fun k hk => by
    rw [← hW1]; exact (Below.heap_alloc _ _ k (by simp; omega)).trans (Below.heap_alloc _ _ k hk)
  have hb1 : Below w.heap.size w W1 := by rw [← hW1]; exact (hb0.alloc hb0.size _).alloc (by have := hb0.size; simp; omega) _
  have hs1 : W1.heap.size = W0.heap.size + 2 := by rw [← hW1]; simp
  have hM : ApAtR w fn (.func (.func g) #[] lb) w.heap.size (W0.heap.size + 1) W0.heap.size [] W1 :=
    ⟨⟨_, (hold w.heap.size (by omega)).trans hv0, ⟨rfl, .inl ⟨rfl, rfl⟩⟩, by simp⟩,
     by rw [← hW1]; have := World.alloc_heap_new (W0.alloc (.deferred (some []))) (.loop (apRecR fn (.func (.func g) #[] lb) w.heap.size W0.heap.size .ready none)); rwa [World.size_alloc] at this,
     by rw [← hW1]; exact (Below.heap_alloc _ _ _ (by simp)).trans (World.alloc_heap_new W0 _), hb1⟩
  refine ⟨W0.heap.size + 1, [{ target := .collected W0.heap.size, args := #[] }], W1, { target := .fn (.func g) lb, args := #[.func (.yield (W0.heap.size + 1)) #[] #[]] }, W1, g,
    #[.func (.yield (W0.heap.size + 1)) #[] #[]] ++ lb, W1, ?_, ?_, ?_, ?_, fun _ => h1, ?_⟩
  · rw [← hW1]; exact run_enterLoop_outer _ _ _ _ _
  · simp [resolve, go_sem]
  · intro f' hf'; simp [Target.leads] at hf'; subst hf'; exact hFg
  · simp [invoke, go_sem, eg]
  · refine (hseq (W0.heap.size + 1) (ApAtR w fn (.func (.func g) #[] lb) w.heap.size (W0.heap.size + 1) W0.heap.size) W1 hb1 (ap_abidesR _ _ _ _ _ _ _ hb1.size)
      (fun pre x W hJ hl => apYieldR F (n - 1 - 1) w fn hfn _ w.heap.size (W0.heap.size + 1) W0.heap.size (by omega) (by omega) (by omega) (Nat.le_refl _) (by omega) N hN hNb pre x W hJ hl) hM).mono ?_
    rintro e W2 ⟨⟨v0, rfl⟩, ss, hS, h2⟩
    obtain ⟨v, hv, hrow, hnil⟩ := h2.box
    have hend := run_endLoop (P := Tryz.prog) h2.L (by simp [apRecR])
    obtain ⟨W3, hW3⟩ : ∃ W3, W2.putObj (W0.heap.size + 1) (.loop { apRecR fn (.func (.func g) #[] lb) w.heap.size W0.heap.size .ready none with state := .exhausted }) = W3 := ⟨_, rfl⟩
    rw [hW3] at hend
    have hg3 : W2.grownBy W3 (some (W0.heap.size + 1)) := by rw [← hW3]; exact grownBy_putObj_a _ _ _
    have hv3 : W3.heap[w.heap.size]? = some (.cells #[v] 41 (0, 0)) := by rw [← hW3]; exact (World.putObj_heap_other (by omega)).trans hv
    have hK3 : W3.heap[W0.heap.size]? = some (.deferred (some [])) := by rw [← hW3]; exact (World.putObj_heap_other (by omega)).trans h2.K
    have hrow3 := hrow.kept hg3 (ownsRow_ne_a hrow h2.L (fun cur e => by first | cases e | exact absurd (Obj.cells.inj e).2.1 (by decide)))
    have hb3 : Below w.heap.size w W3 := h2.below.grown hg3 h2.below.size (fun k e => by cases e; omega)
    obtain ⟨hc3, hf3⟩ := cell_of_box_a hv3
    clear hW3
    refine ⟨none, W3, hend, ?_⟩
    gi_wp2
    rw [← hs0]
    refine ⟨by simp, .inl ⟨_, _, rfl, run_takeDeferred hK3, ?_⟩⟩
    exact ⟨_, results_tmp rfl _ _ _, v, ss, rfl, hS, hrow3.kept (grownBy_putObj_a _ _ _) (ownsRow_ne_a hrow3 hK3 (fun cur e => by first | cases e | exact absurd (Obj.cells.inj e).2.1 (by decide))), hnil, hb3.grown (grownBy_putObj_a _ _ _) hb3.size (fun k e => by cases e; omega)⟩


set_option maxRecDepth 100000 in
set_option maxHeartbeats 1000000 in
/-- **slices.Collect(seq), AGAINST WHATEVER ITERATOR VALUE.** -/
theorem collectR_in (F : Fence) (n : Nat) (h8 : F.fn 63) (h11 : F.fn 84) (hro : F.round = none) (hn : 3 ≤ n) (g : Nat) (lb : Array Value) (hFg : F.fn g) (eg : ∀ args w, (callFunc g args).run Tryz.prog w = .ok (.enter g args) w)
    (S : List Rs → Prop) (N : Nat) (hN : N ≤ maxLen) (hNb : N * 192 ≤ 140737488355328) (w : World) (hseq : SeqGives F (n - 1 - 1) Tryz.prog g lb rsV S N w) :
    CallsIn F n Tryz.prog 63 #[.func (.func g) #[] lb] w fun e w' => ∃ (v : Value) (ss : List Rs), e = .returned v ∧ S ss ∧ w'.ownsRow w.heap.size 37 17 v ss.length (rss ss) ∧ (v = .slice none 0 0 ↔ ss = []) ∧ Below w.heap.size w w' := by
  have h1 : 1 ≤ n := by omega
  have e11 : ∀ args w, (callFunc 84 args).run Tryz.prog w = .ok (.enter 84 args) w := fun args w => rfl
  refine callsIn_of_wp Tryz.func63 rfl h8 ?_ hro
  simp only [Tryz.ntmps63, List.size_toArray, List.length_cons, List.length_nil, Nat.reduceAdd, Nat.reduceSub, Array.replicate_succ, Array.replicate_zero, List.push_toArray, List.append_toArray, List.nil_append, List.cons_append]
  gi_wp2_with (gi_at_fn 84; refine (appendSeqR_in F (n - 1) h11 hro (by omega) g lb hFg eg S N hN hNb _ hseq).mono ?_; rintro e w' ⟨v, ss, rfl, hS, hrow, hnil, hb⟩)
  go_ret
  exact ⟨v, ss, rfl, hS, hrow, hnil, hb⟩

end Go.Proofs.YtimlfdihodoolaaGreat
/-
  Contracts of slices.Grow from nil and slices.Concat of two. No condition.
-/
namespace Go.Proofs.YtimlfdihodoolaaGreat
set_option linter.unusedVariables false
set_option linter.unusedSimpArgs false
open Go.RowKit

theorem run_append_zeros_nil {P : Program} (w : World) (t u ty e : TypeId) (k : IntKind) (i : TypeInfo) (z : Value) (ht : P.underlying t = some (.slice e)) (hu : P.underlying u = some (.int k)) (hi : P.info? e = some i) (hz : i.zero = some z)
    (n : Nat) (h0 : 0 < n) (h48 : n * i.bytes ≤ 281474976710656) (h63 : (n : Int) ≤ 9223372036854775807) (hs : 0 < i.size) :
    (Builtin.append_ #[t, u] ty #[.slice none 0 0, .int k (n : Int)]).run P w =
      .ok (.slice (some ⟨w.heap.size, 0, none⟩) n (grownCap w n 0 e)) (w.drew.alloc (.cells (Builtin.zeroCells z.cells n ++ Builtin.zeroCells z.cells (grownCap w n 0 e - n)) e)) := by
  have hn : n ≠ 0 := by omega
  have hw : IntKind.i64.wrap (n : Int) = n := IntWalk.i64_in _ (by omega)
  have h63' : ¬ (9223372036854775807 < (n : Int)) := by omega
  have h48' : ¬ (281474976710656 < Builtin.nextslicecap n 0 * i.bytes) := by rw [nextslicecap_zero h0]; omega
  have h48i : ¬ ((281474976710656 : Int) < (n : Int) * (i.bytes : Int)) := by
    have : ((n * i.bytes : Nat) : Int) ≤ 281474976710656 := by omega
    rw [Int.natCast_mul] at this
    omega
  have hneg : ¬ ((n : Int) < 0) := by omega
  have hns : ¬ n * i.size = 0 := Nat.ne_of_gt (Nat.mul_pos h0 hs)
  simp [Builtin.append_, run_underlying ht, run_underlying hu, sizeOf, typeInfo, zeroValue, hi, hz, Builtin.lenOf, hn, hw, asInt, asIntOf, hneg, h48i, h63', h48', hns, Question.forced, run_firstCells_none, newRow, grownCap]

theorem wpList_append_zeros_nil {P : Program} {w : World} {ops : Array Oper} {rest : List Oper} {o : Oper} {a : Act} {Q : Exit → Act → World → Prop} (hgd : o.guard = none) (s x : Operand) (t u : TypeId)
    (ho : o.op = .call { callee := .builtin .append, args := #[s, x], argTypes := #[t, u] }) (e : TypeId) (k : IntKind) (i : TypeInfo) (z : Value) (ht : P.underlying t = some (.slice e)) (hu : P.underlying u = some (.int k)) (hi : P.info? e = some i) (hz : i.zero = some z)
    (n : Nat) (h0 : 0 < n) (h48 : n * i.bytes ≤ 281474976710656) (h63 : (n : Int) ≤ 9223372036854775807) (hsz : 0 < i.size) (hs : a.eval s = .slice none 0 0) (hx : a.eval x = .int k (n : Int))
    (h : wpList P ops Q rest (a.put o.dst (.slice (some ⟨w.heap.size, 0, none⟩) n (grownCap w n 0 e))) (w.drew.alloc (.cells (Builtin.zeroCells z.cells n ++ Builtin.zeroCells z.cells (grownCap w n 0 e - n)) e))) :
    wpList P ops Q (o :: rest) a w :=
  wpList_plain hgd fun _ hK => by
    unfold Oper.wp execOp
    simp only [ho, resolve, invoke, builtin, Sem.run_bind, Sem.run_pure, Result.andThen_ok, List.map_toArray, List.map_cons, List.map_nil, hs, hx, run_append_zeros_nil w t u o.type e k i z ht hu hi hz n h0 h48 h63 hsz]
    exact hK _ _ h

set_option maxRecDepth 100000 in
/-- What Grow leaves: an empty row with room. -/
theorem grow_ok (w : World) (n : Nat) (hn : n ≤ 140737488355328) : Calls Tryz.prog 80 #[.slice none 0 0, .int .i64 (n : Int)] w fun e w' =>
    ∃ A' c', e = .returned (.slice A' 0 c') ∧ OwB w' 5 A' 0 c' [] ∧ Fresh w A' ∧ Mod none_ w w' := by
  obtain ⟨i0, hi, hz0, hz1, hz2⟩ := info_parts u8info
  rcases Nat.eq_zero_or_pos n with h0 | h0
  · subst h0
    go_enter Tryz.func80, Tryz.ntmps80
    go_wp2
    go_ret
    exact ⟨none, 0, rfl, Ow.nil _ _ _, (fun _ h => by cases h), Mod.refl _ _⟩
  · have hg1 := grownCap_le_maxLen w n 0 5 (by simp only [maxLen]; omega)
    have hg0 := grownCap_ge w n 0 5
    have hcl : ∀ c, c = grownCap w n 0 5 → c ≤ 9223372036854775807 := fun c hc => by rw [hc]; simpa [maxLen] using hg1
    go_enter Tryz.func80, Tryz.ntmps80
    go_wp2_with (at_builtin; refine wpList_append_zeros_nil rfl (.tmp 20) (.tmp 21) 22 3 rfl 5 .i64 i0 _ Tryz.underlying22 Tryz.underlying3 hi hz0 n h0 (by rw [hz2]; omega) (by omega) (by omega) rfl rfl ?_)
    go_ret
    refine ⟨some ⟨w.heap.size, 0, none⟩, grownCap w n 0 5, rfl, ⟨rfl, Nat.zero_le _, hg1, .inr ⟨w.heap.size, _, rfl, heap_alloc_new w.drew _, ?_, by simp [bvs]⟩⟩, ?_, ((Mod.refl none_ w).drew).alloc _⟩
    · simp only [Array.size_append, size_zeroCells, List.size_toArray, List.length_cons, List.length_nil]
      omega
    · intro a ha; cases ha; exact Nat.le_refl _

def pre2 (n1 n2 j : Nat) : Nat := if j = 0 then 0 else if j = 1 then n1 else n1 + n2
def cat2 (l1 l2 : List UInt8) (j : Nat) : List UInt8 := if j = 0 then [] else if j = 1 then l1 else l1 ++ l2
def CatRel (w : World) (n1 n2 : Nat) (l1 l2 : List UInt8) (j : Nat) (v : Value) (wr : World) : Prop :=
  ∃ A' c', v = .slice A' (pre2 n1 n2 j) c' ∧ OwB wr 5 A' (pre2 n1 n2 j) c' (cat2 l1 l2 j) ∧ Fresh w A' ∧ Mod none_ w wr
theorem CatRel.next {w wr w1 : World} {n1 n2 j k : Nat} {l1 l2 b : List UInt8} {A A' : Option Addr} {c' : Nat} (hF : Fresh w A) (hm : Mod none_ w wr)
    (hown : Ow w1 5 1 A' (pre2 n1 n2 j + k) c' (bvs (cat2 l1 l2 j) ++ bvs b)) (hmod : Mod (fp A) wr w1) (hA : A' = A ∨ A' = some ⟨wr.heap.size, 0, none⟩)
    (e1 : pre2 n1 n2 (j + 1) = pre2 n1 n2 j + k) (e2 : cat2 l1 l2 (j + 1) = cat2 l1 l2 j ++ b) : CatRel w n1 n2 l1 l2 (j + 1) (.slice A' (pre2 n1 n2 j + k) c') w1 := by
  refine ⟨A', c', by rw [e1], ?_, ?_, hm.then hmod fun i hi hf => ?_⟩
  · rw [e1, e2]
    show Ow _ _ _ _ _ _ (bvs _)
    rw [bvs_append]; exact hown
  · rintro a ha
    rcases hA with rfl | rfl
    · exact hF a ha
    · cases ha; exact hm.size
  · obtain ⟨a, ha, rfl⟩ := hf
    have := hF a ha
    omega

set_option maxRecDepth 100000 in
set_option maxHeartbeats 1000000 in
/-- Two texts of bytes, one behind the other. -/
theorem concat2_ok (w : World) (g : Nat) (B1 B2 : Option Addr) (n1 n2 d1 d2 : Nat) (l1 l2 : List UInt8) (hb : Rd w 1 (some ⟨g, 0, none⟩) 2 [.slice B1 n1 d1, .slice B2 n2 d2]) (h1 : RdB w B1 n1 l1) (h2 : RdB w B2 n2 l2) (hn : n1 + n2 ≤ 140737488355328) :
    Calls Tryz.prog 55 #[.slice (some ⟨g, 0, none⟩) 2 2] w fun e w' =>
    ∃ A' c', e = .returned (.slice A' (n1 + n2) c') ∧ OwB w' 5 A' (n1 + n2) c' (l1 ++ l2) ∧ Fresh w A' ∧ Mod none_ w w' := by
  obtain ⟨i0, hi, hz0, hz1, hz2⟩ := info_parts u8info
  obtain ⟨b, o, hbo, hc⟩ := hb.form (by omega) (by omega)
  cases hbo
  have c0 : w.cell? ⟨g, 0, none⟩ = some (.slice B1 n1 d1) := hc 0 _ rfl
  have c1 : w.cell? ⟨g, 1, none⟩ = some (.slice B2 n2 d2) := hc 1 _ rfl
  have H1 := Lib.hid h1
  have H2 := Lib.hid h2
  clear hb hc h1 h2
  go_enter Tryz.func55, Tryz.ntmps55
  go_wp2_with fail
  go_loop [3, 11] (fun s i => ∃ j : Nat, i = .int .i64 j ∧ s = .int .i64 (pre2 n1 n2 j : Nat) ∧ j ≤ 2) (fun _ i => 2 - (intOf i).toNat)
  case atStart => exact ⟨0, rfl, rfl, by omega⟩
  case round =>
    obtain ⟨j, rfl, rfl, hj⟩ := hrel
    by_cases j0 : j = 0
    · subst j0
      have e1 : pre2 n1 n2 0 = 0 := rfl
      go_wp2
      go_round
      case rel => exact ⟨1, rfl, by simp [pre2], by omega⟩
      case measure => simp [intOf]
    · by_cases j1 : j = 1
      · subst j1
        have e1 : pre2 n1 n2 1 = n1 := rfl
        go_wp2
        go_round
        case rel => exact ⟨2, rfl, by simp [pre2], by omega⟩
        case measure => simp [intOf]
      · obtain rfl : j = 2 := by omega
        have e1 : pre2 n1 n2 2 = n1 + n2 := rfl
        clear j0 j1 hj
        go_wp2_with fail
        have gr := grow_ok w (n1 + n2) hn
        rw [Int.natCast_add] at gr
        refine gr.mono ?_
        rintro e w1 ⟨A0, c0', rfl, ho0, hf0, hm0⟩
        have hr0 : CatRel w n1 n2 l1 l2 0 (.slice A0 0 c0') w1 := ⟨A0, c0', rfl, ho0, hf0, hm0⟩
        replace hr0 := Lib.hid hr0
        clear ho0 hf0 hm0 e1
        go_wp2_with fail
        go_loopw [6, 27] (fun v i wr => ∃ j : Nat, i = .int .i64 j ∧ CatRel w n1 n2 l1 l2 j v wr ∧ j ≤ 2) (fun _ i _ => 2 - (intOf i).toNat)
        case atStart => exact ⟨0, rfl, hr0.out, by omega⟩
        case round =>
          obtain ⟨j, rfl, ⟨A', c', rfl, hown, hF, hm⟩, hj⟩ := hrel
          have c0 := hm.cell_some c0 (fun hf => hf)
          have c1 := hm.cell_some c1 (fun hf => hf)
          replace hown := Lib.hid hown
          replace hF := Lib.hid hF
          replace hm := Lib.hid hm
          by_cases j0 : j = 0
          · subst j0
            go_wp2_with (at_builtin; refine wpList_append_ow rfl (.tmp 31) (.tmp 32) 22 rfl 5 i0 _ 1 1 Tryz.underlying22 hi hz0 hz1 hz2 rfl (by omega) A' _ c' (bvs (cat2 l1 l2 0)) rfl hown.out B1 n1 d1 (bvs l1) rfl (Rd.mod0 H1.out hm.out) (bvs_one l1) (by rw [show pre2 n1 n2 0 = 0 from rfl]; omega) (by rw [show pre2 n1 n2 0 = 0 from rfl]; omega) ?_; intro A1 c1' w1 hown1 hmod1 hA1)
            have hnext := CatRel.next (l2 := l2) (n2 := n2) hF.out hm.out hown1 hmod1 hA1 (by simp [pre2]) (by simp [cat2])
            replace hnext := Lib.hid hnext
            clear hown1 hmod1 hA1
            go_wp2
            go_roundw
            case rel => exact ⟨1, rfl, hnext.out, by omega⟩
            case measure => simp [intOf]
          · by_cases j1 : j = 1
            · subst j1
              go_wp2_with (at_builtin; refine wpList_append_ow rfl (.tmp 31) (.tmp 32) 22 rfl 5 i0 _ 1 1 Tryz.underlying22 hi hz0 hz1 hz2 rfl (by omega) A' _ c' (bvs (cat2 l1 l2 1)) rfl hown.out B2 n2 d2 (bvs l2) rfl (Rd.mod0 H2.out hm.out) (bvs_one l2) (by rw [show pre2 n1 n2 1 = n1 from rfl]; omega) (by rw [show pre2 n1 n2 1 = n1 from rfl]; omega) ?_; intro A1 c1' w1 hown1 hmod1 hA1)
              have hnext := CatRel.next hF.out hm.out hown1 hmod1 hA1 (by simp [pre2]) (by simp [cat2])
              replace hnext := Lib.hid hnext
              clear hown1 hmod1 hA1
              go_wp2
              go_roundw
              case rel => exact ⟨2, rfl, hnext.out, by omega⟩
              case measure => simp [intOf]
            · obtain rfl : j = 2 := by omega
              go_wp2
              go_ret
              exact ⟨A', c', rfl, hown.out, hF.out, hm.out⟩
end Go.Proofs.YtimlfdihodoolaaGreat
/-
  'make' of a row of one-cell elements, and 'copy' that fills a whole row. No condition.
-/
namespace Go.Proofs.YtimlfdihodoolaaGreat
set_option linter.unusedVariables false
set_option linter.unusedSimpArgs false
open Go.RowKit
theorem copy_all {P : Program} {w : World} {ops : Array Oper} {rest : List Oper} {o : Oper} {a : Act} {Q : Exit → Act → World → Prop} (hgd : o.guard = none) (d s : Operand) (dT sT elem : TypeId)
    (ho : o.op = .call { callee := .builtin .copy, args := #[d, s], argTypes := #[dT, sT] }) (hu : P.underlying dT = some (.slice elem)) (hsz : (P.info? elem).map (·.size) = some 1)
    {g n c1 c2 : Nat} {S : Option Addr} {xs : List Value} {cur : Array Value} (hd : a.eval d = .slice (some ⟨g, 0, none⟩) n c1) (hs : a.eval s = .slice S n c2) (hg : Blk w g elem cur) (hcur : cur.size = n) (hn : n ≤ maxLen)
    (hr : Rd w 1 S n xs) (h1 : ∀ u ∈ xs, u.oneCell' = true)
    (h : ∀ w', Ow w' elem 1 (some ⟨g, 0, none⟩) n n xs → Mod (fun k => k = g) w w' → wpList P ops Q rest (a.put o.dst (goInt n)) w') : wpList P ops Q (o :: rest) a w := by
  have hx : xs.length = n := by have := hr.1; omega
  rcases Nat.eq_zero_or_pos n with h0 | h0
  · subst h0
    refine wpList_copy_nothing hgd d s dT sT ho elem hu hsz _ _ _ _ _ _ hd hs (by simp) ?_
    have : xs = [] := List.eq_nil_of_length_eq_zero hx
    subst this
    exact h w ⟨by simp, by omega, by omega, .inr ⟨g, cur, rfl, hg, by omega, by simp⟩⟩ (Mod.refl _ w)
  · obtain ⟨ad, rfl, hc⟩ := hr.2 h0
    have hx2 := hx
    refine wpList_copy_own hgd d s dT sT ho elem hu hsz g 0 n c1 ad n c2 hd hs cur elem hg xs (by simp [hx]) hc (by omega) h1 ?_
    have e : (cur.toList.take 0 ++ (xs ++ cur.toList.drop (0 + xs.length))) = xs := by
      rw [List.drop_eq_nil_of_le (by simp; omega)]; simp
    rw [e, hx]
    refine h _ ⟨by omega, by omega, by omega, .inr ⟨g, xs.toArray, rfl, setRow_heap w g cur _ elem _ hg, by simp [hx], by simp [← hx]⟩⟩ ⟨rfl, rfl, rfl, by simp, fun k _ hk => setRow_other w g k _ (fun e => hk e)⟩
/-- 'make([]T, n)' as a rule of the walk. -/
theorem make_run {P : Program} (w : World) (t e : TypeId) (z : Value) (bytes n : Nat) (ht : P.underlying t = some (.slice e)) (hinfo : (P.info? e).map (fun i => (i.zero, i.size, i.bytes)) = some (some z, 1, bytes)) (hz1 : z.cells = #[z])
    (hbytes : bytes * n ≤ 281474976710656) (h63 : n ≤ 9223372036854775807) :
    (Instr.makeSlice t (.int .i64 (n : Int)) (.int .i64 (n : Int))).run P w = .ok (.slice (some ⟨w.heap.size, 0, none⟩) n n) (w.alloc (.cells (madeCells #[z] n) e)) :=
  run_make_row' t e z bytes ht hinfo hz1 .i64 .i64 n hbytes h63 w
end Go.Proofs.YtimlfdihodoolaaGreat
/-
  '[]byte(s)' as a step of the walk. No condition.
-/
namespace Go.Proofs.YtimlfdihodoolaaGreat
set_option linter.unusedVariables false
set_option linter.unusedSimpArgs false
open Go.RowKit
theorem txt_size (l : List UInt8) : (txt l).size = l.length := by simp [txt, ByteArray.size]
theorem bytes_of_run (w : World) (l : List UInt8) : ∃ A c w', (convert 9 22 (.string (txt l))).run Tryz.prog w = .ok (.slice A l.length c) w' ∧ RdB w' A l.length l ∧ Fresh w A ∧ l.length ≤ c ∧ Mod none_ w w' ∧ (∀ k, fp A k → k < w'.heap.size) := by
  have h := Lib.run_convert_string_bytes (P := Tryz.prog) w 9 22 5 (txt l) Tryz.underlying9 Tryz.underlying22 Tryz.underlying5
  rw [txt_size] at h
  refine ⟨_, _, _, h, ⟨by simp [bvs_length], fun hn => ⟨_, rfl, fun j u hu => ?_⟩⟩, ?_, ?_, ⟨rfl, ?_, rfl, ?_, ?_⟩, ?_⟩
  · have hj : j < l.length := by
      have := (List.getElem?_eq_some_iff.1 hu).1
      simpa [bvs_length] using this
    rw [bvs_get hj] at hu
    have := Lib.bytesWorld_cell w 5 (txt l) j (by rw [txt_size]; exact hj)
    rw [add_lit, this, ← hu]
    have e : (txt l).data.toList = l := rfl
    rw [e]
    simp [List.getD, hj]
  · intro a ha; cases ha; exact Nat.le_refl _
  · exact grownCap_ge _ _ _ _
  · simp [Lib.bytesWorld, World.freeze, World.alloc, World.drew, -World.alloc_eq, -World.drew_eq]
  · rw [Lib.bytesWorld_size]; omega
  · intro k hk _; exact Lib.bytesWorld_at_old w _ _ k hk
  · rintro k ⟨a, ha, rfl⟩; cases ha; rw [Lib.bytesWorld_size]; simp
theorem conv_b {w : World} {ops : Array Oper} {rest : List Oper} {o : Oper} {a : Act} {Q : Exit → Act → World → Prop} (hgd : o.guard = none) (x : Operand) (ho : o.op = .convert 9 22 x)
    {l : List UInt8} (hx : a.eval x = .string (txt l))
    (h : ∀ A c w', RdB w' A l.length l → Fresh w A → l.length ≤ c → Mod none_ w w' → (∀ k, fp A k → k < w'.heap.size) → wpList Tryz.prog ops Q rest (a.put o.dst (.slice A l.length c)) w') : wpList Tryz.prog ops Q (o :: rest) a w := by
  refine wpList_plain hgd fun K hK => ?_
  obtain ⟨A, c, w', hrun, h1, h2, h3, h4, h5⟩ := bytes_of_run w l
  unfold Oper.wp
  simp [execOp, ho, hx, hrun, Result.andThen]
  exact hK _ _ (h A c w' h1 h2 h3 h4 h5)
end Go.Proofs.YtimlfdihodoolaaGreat
