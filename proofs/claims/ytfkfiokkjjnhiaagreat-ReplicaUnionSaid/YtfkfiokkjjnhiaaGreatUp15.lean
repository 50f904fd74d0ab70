import Derived.Test.YtfkfiokkjjnhiaaGreatUp7
import Derived.Test.YtfkfiokkjjnhiaaGreatUp14
import Derived.Test.YtfkfiokkjjnhiaaGreatUp2
import Derived.Test.YtfkfiokkjjnhiaaGreatUp9
import Derived.Test.YtfkfiokkjjnhiaaGreatUp1
import Derived.Test.YtfkfiokkjjnhiaaGreatRows
import Derived.Test.YtfkfiokkjjnhiaaGreatUp4
import Derived.Shelf.SlSortCmp.NoneTotal
set_option linter.unusedVariables false
set_option linter.unusedSimpArgs false
set_option maxHeartbeats 16000000
namespace Go.Proofs.YtfkfiokkjjnhiaaGreat
theorem snoc_rec {α : Type} {p : List α → Prop} (h0 : p []) (h1 : ∀ l x, p l → p (l ++ [x])) (l : List α) : p l := by
 have : ∀ m : List α, p m.reverse := fun m => by
  induction m with
  | nil => exact h0
  | cons x m ih => rw [List.reverse_cons]; exact h1 _ _ ih
 have := this l.reverse
 rwa [List.reverse_reverse] at this
def ddStep (acc : List Is) (x : Is) : List Is := if acc.getLast? = some x then acc else acc ++ [x]
def ddl (l : List Is) : List Is := l.foldl ddStep []
theorem ddl_snoc (l : List Is) (x : Is) : ddl (l ++ [x]) = if (ddl l).getLast? = some x then ddl l else ddl l ++ [x] := by
 unfold ddl
 rw [List.foldl_append]
 rfl
theorem ddl_last (l : List Is) : (ddl l).getLast? = l.getLast? := by
 refine snoc_rec (p := fun l => (ddl l).getLast? = l.getLast?) ?_ ?_ l
 ·rfl
 ·intro l x _
  rw [ddl_snoc]
  split
  ·rename_i h; rw [h]; simp
  ·simp
theorem ddl_mem {l : List Is} {y : Is} : y ∈ ddl l ↔ y ∈ l := by
 revert y
 refine snoc_rec (p := fun l => ∀ {y : Is}, y ∈ ddl l ↔ y ∈ l) ?_ ?_ l
 ·exact Iff.rfl
 ·intro l x ih y
  rw [ddl_snoc]
  split
  ·rename_i h
   rw [ih]
   have hx : x ∈ ddl l := List.mem_of_getLast? h
   rw [ih] at hx
   simp only [List.mem_append, List.mem_singleton]
   constructor
   ·exact fun h => .inl h
   ·rintro (h | rfl)
    ·exact h
    ·exact hx
  ·simp [ih]
theorem ddl_len (l : List Is) : (ddl l).length ≤ l.length := by
 refine snoc_rec (p := fun l => (ddl l).length ≤ l.length) ?_ ?_ l
 ·exact Nat.le_refl _
 ·intro l x ih
  rw [ddl_snoc]
  split <;> simp <;> omega
def Up (l : List Is) : Prop := l.Pairwise fun a b => isLt a b = true
def Rise (l : List Is) : Prop := l.Pairwise fun a b => isLt b a = false
theorem isLt_tot {a b : Is} (h : isLt b a = false) (hne : a ≠ b) : isLt a b = true := by
 obtain ⟨a1, a2⟩ := a
 obtain ⟨b1, b2⟩ := b
 unfold isLt at *
 simp only [decide_eq_false_iff_not, decide_eq_true_eq, ne_eq, Is.mk.injEq] at *
 omega
theorem isLt_anti {a b : Is} (h : isLt b a = false) (h' : isLt a b = false) : a = b := by
 rcases Classical.em (a = b) with e | e
 ·exact e
 ·rw [isLt_tot h e] at h'; cases h'
theorem isLt_irr (a : Is) : isLt a a = false := by unfold isLt; simp
theorem isLt_asym {a b : Is} (h : isLt a b = true) : isLt b a = false := by
 unfold isLt at *
 simp only [decide_eq_false_iff_not, decide_eq_true_eq] at *
 omega
theorem ddl_up {l : List Is} (h : Rise l) : Up (ddl l) := by
 revert h
 refine snoc_rec (p := fun l => Rise l → Up (ddl l)) ?_ ?_ l
 ·intro _; exact List.Pairwise.nil
 ·intro l x ih h
  obtain ⟨h1, _, h3⟩ := List.pairwise_append.1 h
  have ih := ih h1
  rw [ddl_snoc]
  split
  ·exact ih
  ·rename_i hne
   refine List.pairwise_append.2 ⟨ih, List.pairwise_singleton _ _, fun y hy z hz => ?_⟩
   rw [List.mem_singleton] at hz
   subst hz
   rw [ddl_mem] at hy
   have hyz := h3 y hy z (List.mem_singleton.2 rfl)
   refine isLt_tot hyz fun e => hne ?_
   subst e
   rw [ddl_last]
   rcases List.eq_nil_or_concat l with rfl | ⟨m, u, rfl⟩
   ·cases hy
   ·rw [List.concat_eq_append] at *
    rw [List.getLast?_append, List.getLast?_singleton, Option.some_or]
    congr 1
    rcases List.mem_append.1 hy with hy | hy
    ·obtain ⟨_, _, g3⟩ := List.pairwise_append.1 h1
     have g1 := g3 y hy u (List.mem_singleton.2 rfl)
     have g2 := h3 u (by simp) y (List.mem_singleton.2 rfl)
     exact (isLt_anti g1 g2).symm
    ·exact (List.mem_singleton.1 hy).symm
theorem Up.nodup {l : List Is} (h : Up l) : l.Nodup := h.imp fun {a b} h e => by subst e; rw [isLt_irr] at h; cases h
theorem up_eq : ∀ {a b : List Is}, Up a → Up b → (∀ x, x ∈ a ↔ x ∈ b) → a = b
 | [], [], _, _, _ => rfl
 | [], y :: b, _, _, h => absurd ((h y).2 List.mem_cons_self) (by simp)
 | x :: a, [], _, _, h => absurd ((h x).1 List.mem_cons_self) (by simp)
 | x :: a, y :: b, ha, hb, h => by
  obtain ⟨ha1, ha2⟩ := List.pairwise_cons.1 ha
  obtain ⟨hb1, hb2⟩ := List.pairwise_cons.1 hb
  have hxy : x = y := by
   rcases List.mem_cons.1 ((h x).1 List.mem_cons_self) with e | e
   ·exact e
   ·rcases List.mem_cons.1 ((h y).2 List.mem_cons_self) with e' | e'
    ·exact e'.symm
    ·have h1 := hb1 x e
     have h2 := ha1 y e'
     rw [isLt_asym h1] at h2; cases h2
  subst hxy
  have := up_eq ha2 hb2 fun z => by
   constructor
   ·intro hz
    rcases List.mem_cons.1 ((h z).1 (List.mem_cons_of_mem _ hz)) with e | e
    ·subst e; have := ha1 z hz; rw [isLt_irr] at this; cases this
    ·exact e
   ·intro hz
    rcases List.mem_cons.1 ((h z).2 (List.mem_cons_of_mem _ hz)) with e | e
    ·subst e; have := hb1 z hz; rw [isLt_irr] at this; cases this
    ·exact e
  rw [this]
theorem rise_perm {l m : List Is} (hp : l.Perm m) (hr : Rise l) : Up (ddl l) ∧ ∀ x, x ∈ ddl l ↔ x ∈ m := ⟨ddl_up hr, fun x => by rw [ddl_mem, hp.mem_iff]⟩
theorem ddl_take_eq {l : List Is} : ∀ k, k ≤ l.length → (∀ j (h : j + 1 < l.length), j + 1 < k → l[j] ≠ l[j + 1]) → ddl (l.take k) = l.take k
 | 0, _, _ => by simp [ddl]
 | k + 1, hk, h => by
  have ih := ddl_take_eq k (by omega) fun j hj hjk => h j hj (by omega)
  rw [List.take_succ_eq_append_getElem (by omega), ddl_snoc, ih, if_neg]
  rcases Nat.eq_zero_or_pos k with rfl | h0
  ·simp
  ·obtain ⟨q, rfl⟩ : ∃ q, k = q + 1 := ⟨k - 1, by omega⟩
   rw [List.take_succ_eq_append_getElem (by omega), List.getLast?_append, List.getLast?_singleton, Option.some_or]
   intro e
   exact h q (by omega) (by omega) (Option.some.inj e)
theorem ddl_take_step {l : List Is} {k : Nat} (h0 : 0 < k) (hk : k < l.length) : ddl (l.take (k + 1)) = if l[k] = l[k - 1] then ddl (l.take k) else ddl (l.take k) ++ [l[k]] := by
 rw [List.take_succ_eq_append_getElem hk, ddl_snoc, ddl_last]
 obtain ⟨q, rfl⟩ : ∃ q, k = q + 1 := ⟨k - 1, by omega⟩
 rw [List.take_succ_eq_append_getElem (by omega), List.getLast?_append, List.getLast?_singleton, Option.some_or]
 simp only [Nat.add_sub_cancel, Option.some.injEq]
 by_cases e : l[q] = l[q + 1]
 ·rw [if_pos e, if_pos e.symm]
 ·rw [if_neg e, if_neg (fun h => e h.symm)]
end Go.Proofs.YtfkfiokkjjnhiaaGreat
namespace Go.Proofs.YtfkfiokkjjnhiaaGreat
open Go.RowKit
theorem iss_set : ∀ (ys : List Is) (i : Nat) (x : Is), i < ys.length → iss (ys.set i x) = (iss ys).take (i * 2) ++ (isC x ++ (iss ys).drop (i * 2 + 2)) := by
 intro ys
 induction ys with
 | nil => intro i x h; simp at h
 | cons y ys ih =>
  intro i x h
  cases i with
  | zero =>
   simp only [List.set_cons_zero, Nat.zero_mul, List.take_zero, List.nil_append, Nat.zero_add]
   show isC x ++ iss ys = isC x ++ (isC y ++ iss ys).drop 2
   rw [List.drop_append, isC_len, List.drop_of_length_le (by rw [isC_len]; exact Nat.le_refl _)]
   simp
  | succ i =>
   simp only [List.length_cons] at h
   have := ih i x (by omega)
   show isC y ++ iss (ys.set i x) = (isC y ++ iss ys).take ((i + 1) * 2) ++ (isC x ++ (isC y ++ iss ys).drop ((i + 1) * 2 + 2))
   have e1 : (isC y ++ iss ys).take ((i + 1) * 2) = isC y ++ (iss ys).take (i * 2) := by
    rw [List.take_append, List.take_of_length_le (l := isC y) (by rw [isC_len]; omega), isC_len, show (i + 1) * 2 - 2 = i * 2 by omega]
   have e2 : (isC y ++ iss ys).drop ((i + 1) * 2 + 2) = (iss ys).drop (i * 2 + 2) := by
    rw [List.drop_append, List.drop_of_length_le (l := isC y) (by rw [isC_len]; omega), isC_len, show (i + 1) * 2 + 2 - 2 = i * 2 + 2 by omega]
    simp
   rw [this, e1, e2]
   simp
theorem owP_set {w : World} {g n c : Nat} {ys : List Is} (h : OwP w (some ⟨g, 0, none⟩) n c ys) {i : Nat} (hi : i < n) (x : Is) : OwP (w.setCells g (i * 2) (isC x)) (some ⟨g, 0, none⟩) n c (ys.set i x) := by
 have hl : ys.length = n := by have := h.1; rw [iss_length] at this; omega
 have := ow_setCells h (i * 2) (isC x) (by rw [isC_len]; omega)
 unfold OwP
 rw [iss_set ys i x (by omega)]
 exact this
theorem OwP.take {w : World} {A : Option Addr} {n c : Nat} {xs : List Is} (h : OwP w A n c xs) {k : Nat} (hk : k ≤ n) : OwP w A k c (xs.take k) := by
 have := Ow.take_ h hk
 have e : (iss xs).take (k * 2) = iss (xs.take k) := by
  have h0 : iss xs = iss (xs.take k) ++ iss (xs.drop k) := by rw [← iss_append, List.take_append_drop]
  rw [h0]
  have hl : (iss (xs.take k)).length = k * 2 := by rw [iss_length, List.length_take, h.len, Nat.min_eq_left hk]
  rw [List.take_append, hl, List.take_of_length_le (by omega)]
  simp
 rw [e] at this
 exact this
theorem run_clear_owI {P : Program} (w : World) (t e ty : TypeId) (z : Value) (size : Nat) (ht : P.underlying t = some (.slice e)) (hv : ∀ w, (zeroValue e).run P w = .ok z w) (hzs : z.cells.size = size) (hz1 : ∀ v ∈ z.cells.toList, v.oneCell' = true) (hs : 0 < size)
  (A : Option Addr) (n c : Nat) (xs : List Value) (hown : Ow w e size A n c xs) (k : Nat) (hk : k ≤ n) (S : Option Addr) (m d : Nat) (hm : m = n - k) (hS : 0 < m → S = A.map (·.add (k * size))) :
  ∃ w', (Builtin.clear_ #[t] ty #[.slice S m d]).run P w = .ok (.tuple #[]) w' ∧ Ow w' e size A k c (xs.take (k * size)) ∧ Mod (fp A) w w' := by
 rcases Nat.eq_zero_or_pos m with h0 | h0
 ·subst h0
  refine ⟨w, ?_, Ow.take_ hown hk, Mod.refl _ w⟩
  cases S <;> simp [Builtin.clear_, run_underlying ht]
 ·obtain ⟨g, cur, rfl, hb, h5, h6⟩ := hown.form (by omega)
  have hS' := hS h0
  have ea : (⟨g, 0, none⟩ : Addr).add (k * size) = ⟨g, k * size, none⟩ := add_lit g _
  simp only [Option.map_some, ea] at hS'
  subst hS'
  have hzl : (Builtin.zeroCells z.cells m).toList.length = m * size := by rw [Array.length_toList, size_zeroCells, hzs]
  have hcn : n * size ≤ c * size := Nat.mul_le_mul_right _ hown.2.1
  have hkm : k * size + m * size = n * size := by rw [← Nat.add_mul]; congr 1; omega
  have h1 : ∀ v ∈ (Builtin.zeroCells z.cells m).toList, v.oneCell' = true := by
   intro v hv'
   have : v ∈ z.cells.toList := by
    simp only [Builtin.zeroCells] at hv'
    simp at hv'
    obtain ⟨i, hi, rfl⟩ := hv'
    have hb2 : i % z.cells.size < z.cells.size := Nat.mod_lt _ (by omega)
    rw [getElem!_pos z.cells _ hb2]
    simp
   exact hz1 v this
  have hst := run_storeCells_cells (P := P) g (k * size) (Builtin.zeroCells z.cells m).toList 0 w
   (fun j hj => by rw [hzl] at hj; rw [Nat.add_zero, hb.cell, Array.getElem?_eq_getElem (by omega)]; rfl) (fun j hj => hb.frozen _) h1
  simp only [Nat.add_zero] at hst
  refine ⟨w.setCells g (k * size) (Builtin.zeroCells z.cells m).toList, ?_, ?_, Mod.setCells _ _ _ _ (Mod.refl _ w) ⟨_, rfl, rfl⟩⟩
  ·obtain ⟨m', rfl⟩ : ∃ m', m = m' + 1 := ⟨m - 1, by omega⟩
   simp [Builtin.clear_, run_underlying ht, hv, hst]
  ·have h7 := ow_setCells hown (k * size) (Builtin.zeroCells z.cells m).toList (by rw [hzl]; omega)
   have h8 := Ow.take_ h7 hk
   have e8 : (xs.take (k * size) ++ ((Builtin.zeroCells z.cells m).toList ++ xs.drop (k * size + (Builtin.zeroCells z.cells m).toList.length))).take (k * size) = xs.take (k * size) := by
    have hxl := hown.1
    have hl : (xs.take (k * size)).length = k * size := by rw [List.length_take]; omega
    rw [List.take_append, hl, List.take_of_length_le (by omega)]
    simp
   rw [e8] at h8
   exact h8
theorem zeroI_run (w : World) : (zeroValue 27).run Tryz.prog w = .ok zeroI w := by
 unfold zeroI
 kernel_rfl
theorem clearP {w : World} (ty : TypeId) {A : Option Addr} {n c : Nat} {xs : List Is} (hown : OwP w A n c xs) (k : Nat) (hk : k ≤ n) (S : Option Addr) (m d : Nat) (hm : m = n - k) (hS : 0 < m → S = A.map (·.add (k * 2))) :
  ∃ w', (Builtin.clear_ #[22] ty #[.slice S m d]).run Tryz.prog w = .ok (.tuple #[]) w' ∧ OwP w' A k c (xs.take k) ∧ Mod (fp A) w w' := by
 obtain ⟨w', h1, h2, h3⟩ := run_clear_owI (P := Tryz.prog) w 22 27 ty zeroI 2 Tryz.underlying22 zeroI_run rfl (fun v hv => List.all_eq_true.1 (show zeroI.cells.toList.all (·.oneCell') = true from rfl) v hv) (by omega) A n c (iss xs) hown k hk S m d hm hS
 refine ⟨w', h1, ?_, h3⟩
 have e : (iss xs).take (k * 2) = iss (xs.take k) := by
  have h0 : iss xs = iss (xs.take k) ++ iss (xs.drop k) := by rw [← iss_append, List.take_append_drop]
  rw [h0]
  have hl : (iss (xs.take k)).length = k * 2 := by rw [iss_length, List.length_take, hown.len, Nat.min_eq_left hk]
  rw [List.take_append, hl, List.take_of_length_le (by omega)]
  simp
 unfold OwP
 rw [← e]
 exact h2
theorem owP_there {w : World} {g n c : Nat} {ys : List Is} (h : OwP w (some ⟨g, 0, none⟩) n c ys) {i : Nat} (hi : i < n) : w.there g (i * 2) 2 := by
 obtain ⟨g', cur, h4, hb, h5, _⟩ := Ow.form h (by omega)
 cases h4
 have := h.2.1
 exact hb.there _ _ (by have := Nat.mul_le_mul_right 2 this; omega)
theorem inst_size2 : (Tryz.prog.info? 27).map (·.size) = some 2 := by kernel_rfl
theorem wpList_storeI {ops : Array Oper} {rest : List Oper} {op : Oper} {a : Act} {w : World} {Q : Exit → Act → World → Prop} (hgd : op.guard = none) (p y : Operand) (ho : op.op = .store 27 p y)
  (g i : Nat) (x : Is) (hx : a.eval p = .pointer (some ⟨g, i * 2, none⟩)) (hy : a.eval y = .agg #[.int .i64 x.r, .int .i64 x.n]) (ht : w.there g (i * 2) 2)
  (h : ∀ w', Hid (w' = w.setCells g (i * 2) (isC x)) → wpList Tryz.prog ops Q rest (a.put op.dst undef) w') : wpList Tryz.prog ops Q (op :: rest) a w :=
 wpList_store_mid hgd 27 p y ho g (i * 2) #[.int .i64 x.r, .int .i64 x.n] hx hy ht inst_size2 (by rw [← Array.all_toList]; rfl) (h _ (zH rfl))
structure CmpSt (w : World) (g n c : Nat) (xs : List Is) (i j : Nat) (W : World) (ys : List Is) : Prop where
 ow : OwP W (some ⟨g, 0, none⟩) n c ys
 lo : i + 1 ≤ j
 hi : j ≤ n
 kept : ys.take i = ddl (xs.take j)
 rest : ys.drop (j - 1) = xs.drop (j - 1)
 mod : Mod (only g) w W
theorem CmpSt.at_ {w : World} {g n c : Nat} {xs : List Is} {i j : Nat} {W : World} {ys : List Is} (h : CmpSt w g n c xs i j W ys) {q : Nat} (hq : j - 1 ≤ q) : ys[q]? = xs[q]? := by
 have := congrArg (·[q - (j - 1)]?) h.rest
 simp only [List.getElem?_drop] at this
 rwa [show j - 1 + (q - (j - 1)) = q by omega] at this
theorem drop_one {α : Type} {l m : List α} {k : Nat} (h : l.drop (k - 1) = m.drop (k - 1)) : l.drop (k + 1 - 1) = m.drop (k + 1 - 1) := by
 rcases Nat.eq_zero_or_pos k with rfl | h0
 ·simpa using congrArg (List.drop 0) h
 ·have := congrArg (List.drop 1) h
  rw [List.drop_drop, List.drop_drop, show k - 1 + 1 = k + 1 - 1 by omega] at this
  exact this
theorem CmpSt.skip {w : World} {g n c : Nat} {xs : List Is} {i j : Nat} {W : World} {ys : List Is} (h : CmpSt w g n c xs i j W ys) {W' : World} (hm : Mod none_ W W') (hl : xs.length = n) (hj : j < n) (he : xs[j]'(by omega) = xs[j - 1]'(by omega)) : CmpSt w g n c xs i (j + 1) W' ys :=
 ⟨h.ow.mod0 hm, Nat.le_succ_of_le h.lo, hj, by rw [ddl_take_step (by have := h.lo; omega) (by omega), if_pos he, h.kept], drop_one h.rest, h.mod.trans (hm.any _)⟩
theorem CmpSt.keep {w : World} {g n c : Nat} {xs : List Is} {i j : Nat} {W : World} {ys : List Is} (h : CmpSt w g n c xs i j W ys) {W' : World} (hm : Mod none_ W W') (hl : xs.length = n) (hj : j < n) (he : ¬ xs[j]'(by omega) = xs[j - 1]'(by omega)) {x : Is} (hx : xs[j]? = some x) :
  CmpSt w g n c xs (i + 1) (j + 1) (W'.setCells g (i * 2) (isC x)) (ys.set i x) := by
 have hyl := h.ow.len
 have hlo := h.lo
 rw [List.getElem?_eq_getElem (by omega)] at hx
 injection hx with hx
 refine ⟨owP_set (h.ow.mod0 hm) (by omega) x, by omega, hj, ?_, ?_, Mod.setCells _ _ _ _ (h.mod.trans (hm.any _)) rfl⟩
 ·rw [ddl_take_step (by omega) (by omega), if_neg he, ← h.kept, hx]
  have hi : i < (ys.set i x).length := by rw [List.length_set]; omega
  rw [List.take_succ_eq_append_getElem hi]
  simp [List.take_set_of_le]
 ·rw [List.drop_set_of_lt (by omega)]
  exact drop_one h.rest
theorem getD_at {l : List Is} {j : Nat} (h : j < l.length) : l[j]? = some l[j] := List.getElem?_eq_getElem h
set_option maxRecDepth 100000
theorem compactP_ok (w : World) (A : Option Addr) (n c : Nat) (xs : List Is) (h : OwP w A n c xs) (hn : n ≤ 100000000) :
  Calls Tryz.prog 30 #[.slice A n c] w fun e w' => ∃ m, e = .returned (.slice A m c) ∧ m = (ddl xs).length ∧ OwP w' A m c (ddl xs) ∧ Mod (fp A) w w' := by
 have hl := h.len
 by_cases hn2 : n < 2
 ·have hd : ddl xs = xs := by
   have := ddl_take_eq (l := xs) xs.length (Nat.le_refl _) (fun j hj => by omega)
   rwa [List.take_length] at this
  replace h := zH h
  replace hd := zH hd
  replace hl := zH hl
  go_enter Tryz.func30, Tryz.ntmps30
  go_wp2_with fail
  go_ret
  exact ⟨n, rfl, by rw [hd.out, hl.out], by rw [hd.out]; exact h.out, Mod.refl _ _⟩
 ·obtain ⟨g, cur, rfl, hb, h5, h6⟩ := h.form (by omega)
  have hcn := h.2.1
  have hcm := h.2.2.1
  clear hb h5 h6 cur
  have hdc : decide ((n : Int) < 2) = false := by simp; omega
  have hrd := zH h.rd
  replace h := zH h
  replace hl := zH hl
  go_enter Tryz.func30, Tryz.ntmps30
  go_wp2_with fail
  go_loopg [3] (n - 1) (fun kk v wr => ∃ j : Nat, v = .int .i64 (j : Nat) ∧ 1 ≤ j ∧ j + kk = n ∧ (∀ i (hi : i + 1 < xs.length), i + 1 < j → xs[i] ≠ xs[i + 1]) ∧ ∃ q, wr = w.drewN q)
  case atStart => exact ⟨1, rfl, by omega, by omega, fun i hi hj => by omega, 0, rfl⟩
  case round =>
   obtain ⟨j, rfl, hj1, hjk, hne, q, hq⟩ := hrel
   by_cases hlt : j < n
   ·obtain ⟨p, rfl⟩ : ∃ p, j = p + 1 := ⟨j - 1, by omega⟩
    have hjx : p + 1 < xs.length := by rw [hl.out]; exact hlt
    obtain ⟨b, o, x0, hA, -, hx0, a1, a2⟩ := rdp_get (w := w.drewN q) (Rd.drewN hrd.out q) hlt
    obtain ⟨b', o', y0, hA', -, hy0, b1, b2⟩ := rdp_get (w := w.drewN q) (Rd.drewN hrd.out q) (show p < n by omega)
    cases hA
    cases hA'
    rw [← hq] at a1 a2 b1 b2
    rw [getD_at hjx] at hx0
    rw [getD_at (by omega)] at hy0
    injection hx0 with hx0
    injection hy0 with hy0
    rw [Nat.zero_add] at a1 a2 b1 b2
    have hst1 : xs[p + 1] = xs[p] → ∀ W', Mod none_ w W' → CmpSt w g n c xs (p + 1) (p + 1 + 1) W' xs := fun he W' hW' =>
     ⟨h.out.mod0 hW', by omega, by omega, by rw [ddl_take_step (by omega) hjx, if_pos (by simpa using he), ddl_take_eq (p + 1) (by omega) hne], rfl, hW'.any _⟩
    have hne2 : xs[p + 1] ≠ xs[p] → ∀ i (hi : i + 1 < xs.length), i + 1 < p + 1 + 1 → xs[i] ≠ xs[i + 1] := fun he i hi hip => by
     rcases Nat.lt_or_ge i p with h1 | h1
     ·exact hne i hi (by omega)
     ·obtain rfl : i = p := by omega
      exact fun e => he e.symm
    rw [hx0, hy0] at hst1 hne2
    clear hx0 hy0 hne
    have hel := fun W => eql_is W x0 y0
    unfold isV at hel
    by_cases hxy : x0 = y0
    ·rw [decide_eq_true hxy] at hel
     have hst := zH (hst1 hxy)
     clear hst1 hne2 hxy
     obtain ⟨qq, rfl⟩ : ∃ qq, n = p + 1 + qq := ⟨n - (p + 1), by omega⟩
     obtain ⟨d, rfl⟩ : ∃ d, c = p + 1 + d := ⟨c - (p + 1), by omega⟩
     have hd0 : ¬ d = 0 := by omega
     have hqd : qq ≤ d := by omega
     have hdq : decide ((p : Int) + 1 < (p : Int) + 1 + (qq : Int)) = true := by simp; omega
     have hdq2 : decide ((p : Int) + 1 < ((p + 1 + qq : Nat) : Int)) = true := by simp; omega
     have hdq3 : decide (((p + 1 : Nat) : Int) < ((p + 1 + qq : Nat) : Int)) = true := by simp; omega
     replace hq := zH hq
     go_wp2_with (go_quiet (fail))
     go_loopg [3, 5] (qq - 1) (fun kk v3 v5 wr => ∃ i t : Nat, v3 = .int .i64 (i : Nat) ∧ v5 = .int .i64 (t : Nat) ∧ 1 ≤ t ∧ t + kk = qq ∧ ∃ ys, CmpSt w g (p + 1 + qq) (p + 1 + d) xs i (p + 1 + t) wr ys)
     case atStart => exact ⟨p + 1, 1, by go_num, rfl, by omega, by omega, xs, hst.out _ (by rw [hq.out]; exact ((Mod.refl none_ w).drewN q).drewN _)⟩
     case round =>
      clear hst a1 a2 b1 b2 hel
      obtain ⟨i, t, rfl, rfl, ht1, htk, ys, st⟩ := hrel
      have hlo := st.lo
      by_cases hlt2 : t < qq
      ·obtain ⟨s, rfl⟩ : ∃ s, t = s + 1 := ⟨t - 1, by omega⟩
       have hjx2 : p + 1 + (s + 1) < xs.length := by rw [hl.out]; omega
       obtain ⟨b1_, o1, u, hA1, -, hu, a1, a2⟩ := rdp_get (w := wr) (Ow.rd st.ow) (show p + 1 + (s + 1) < p + 1 + qq by omega)
       obtain ⟨b2_, o2, v, hA2, -, hv, b1, b2⟩ := rdp_get (w := wr) (Ow.rd st.ow) (show p + 1 + s < p + 1 + qq by omega)
       cases hA1
       cases hA2
       rw [st.at_ (by omega), getD_at hjx2] at hu
       rw [st.at_ (by omega), getD_at (by omega)] at hv
       injection hu with hu
       injection hv with hv
       rw [Nat.zero_add, Nat.add_mul] at a1 a2 b1 b2
       have hxu : xs[p + 1 + (s + 1)]? = some u := by rw [getD_at hjx2, hu]
       have hskip : u = v → ∀ W', Mod none_ wr W' → CmpSt w g (p + 1 + qq) (p + 1 + d) xs i (p + 1 + (s + 1) + 1) W' ys := fun he W' hm => st.skip hm hl.out (by omega) (by rw [hu]; show u = xs[p + 1 + s]; rw [hv]; exact he)
       have hkeep : ¬ u = v → ∀ W', Mod none_ wr W' → CmpSt w g (p + 1 + qq) (p + 1 + d) xs (i + 1) (p + 1 + (s + 1) + 1) (W'.setCells g (i * 2) (isC u)) (ys.set i u) := fun he W' hm => st.keep hm hl.out (by omega) (by rw [hu]; show ¬ u = xs[p + 1 + s]; rw [hv]; exact he) hxu
       have hth : ∀ W', Mod none_ wr W' → W'.there g (i * 2) 2 := fun W' hm => owP_there (st.ow.mod0 hm) (by omega)
       have hnq := fun W => neq_is W u v
       unfold isV at hnq
       clear hu hv hxu
       by_cases huv : u = v
       ·have hsk := zH (hskip huv)
        simp only [huv, decide_true, Bool.not_true] at hnq
        clear hskip hkeep hth
        replace st := zH st
        subst huv
        go_wp2_with (go_quiet (fail))
        go_roundg (gk - 1)
        case measure => omega
        case rel => exact ⟨i, s + 1 + 1, rfl, by go_num, by omega, by omega, ys, hsk.out _ ((Mod.refl none_ wr).drewN _)⟩
       ·have hkp := zH (hkeep huv)
        have htt := zH hth
        rw [decide_eq_false huv] at hnq
        clear hskip hkeep hth
        replace st := zH st
        replace huv := zH huv
        go_wp2_with (first | (go_quiet (fail)) | (refine wpList_storeI rfl (.tmp 51) (.tmp 50) rfl g i u rfl rfl (htt.out _ ((Mod.refl none_ wr).drewN _)) ?_; intro w4 hw4))
        go_roundg (gk - 1)
        case measure => omega
        case rel => exact ⟨i + 1, s + 1 + 1, by go_num, by go_num, by omega, by omega, _, by rw [hw4.out]; exact hkp.out _ ((Mod.refl none_ wr).drewN _)⟩
      ·obtain rfl : t = qq := by omega
       have hkept := st.kept
       rw [List.take_of_length_le (l := xs) (by rw [hl.out]; exact Nat.le_refl _)] at hkept
       have hcl := fun (S : Option Addr) (d' : Nat) (hS : 0 < p + 1 + t - i → S = (some (⟨g, 0, none⟩ : Addr)).map (·.add (i * 2))) => clearP (w := wr) 0 st.ow i (by omega) S (p + 1 + t - i) d' rfl hS
       have hmst := zH (st.mod.mono (G := fp (some (⟨g, 0, none⟩ : Addr))) (fun k hk => ⟨_, rfl, hk.symm⟩))
       have hci : ¬ p + 1 + d = i := by omega
       have hil : i = (ddl xs).length := by rw [← hkept, List.length_take, st.ow.len]; omega
       obtain ⟨w2, hrun, ho2, hm2⟩ := hcl (some ⟨g, i * 2, none⟩) (p + 1 + d - i) (fun h0 => by simp only [Option.map_some, add_lit])
       rw [hkept] at ho2
       have hmf := zH (hmst.out.trans hm2)
       clear hm2 hkept hcl
       replace st := zH st
       replace ho2 := zH ho2
       replace hil := zH hil
       go_wp2_with fail
       go_ret
       exact ⟨i, rfl, hil.out, ho2.out, hmf.out⟩
    ·rw [decide_eq_false hxy] at hel
     have hne3 := zH (hne2 hxy)
     clear hst1 hne2 hxy
     replace hq := zH hq
     go_wp2_with (go_quiet (fail))
     go_roundg (gk - 1)
     case measure => omega
     case rel => exact ⟨p + 1 + 1, by go_num, by omega, by omega, hne3.out, _, by rw [hq.out, World.drewN_drewN]⟩
   ·obtain rfl : j = n := by omega
    have hd : ddl xs = xs := by
     have := ddl_take_eq (l := xs) xs.length (Nat.le_refl _) (fun i hi hij => hne i hi (by rw [hl.out] at hij; omega))
     rwa [List.take_length] at this
    replace hq := zH hq
    replace hne := zH hne
    replace hd := zH hd
    go_wp2_with fail
    go_ret
    exact ⟨j, rfl, by rw [hd.out, hl.out], by rw [hd.out, hq.out]; exact h.out.mod0 ((Mod.refl none_ w).drewN q), by rw [hq.out]; exact (Mod.refl _ w).drewN q⟩
def SameWp (w w' : World) : Prop := w = w'
theorem appPc {w : World} {ops : Array Oper} {rest : List Oper} {o : Oper} {a : Act} {Q : Exit → Act → World → Prop} (hgd : o.guard = none) (s x : Operand)
  (ho : o.op = .call { callee := .builtin .append, args := #[s, x], argTypes := #[22, 22] })
  {A : Option Addr} {n c : Nat} {xs : List Is} (hs : a.eval s = .slice A n c) (hown : OwP w A n c xs)
  {S : Option Addr} {m d : Nat} {news : List Is} (hx : a.eval x = .slice S m d) (hr : RdP w S m news) (hb : (n + m) * 16 ≤ 140737488355328)
  (h : ∀ A' c' w', OwP w' A' (n + m) c' (xs ++ news) → Mod (fp A) w w' → (A' = A ∨ A' = some ⟨w.heap.size, 0, none⟩) → wpList Tryz.prog ops Q rest (a.put o.dst (.slice A' (n + m) c')) w') : wpList Tryz.prog ops Q (o :: rest) a w := by
 obtain ⟨i0, hi, hz0, hz1, hz2⟩ := info_parts isinfo
 refine wpList_append_ow hgd s x 22 ho 27 i0 _ 2 16 Tryz.underlying22 hi hz0 hz1 hz2 rfl (by omega) A n c (iss xs) hs hown S m d (iss news) hx hr (iss_one _) (by omega) (by omega) ?_
 intro A' c' w' h1
 rw [← iss_append] at h1
 exact h A' c' w' h1
def InstsAt (w : World) (G : Option Addr) (m : Nat) (ss : List SV) (lls : List (List Is)) : Prop :=
 Rd w 1 G m (ss.map SV.v) ∧ ss.length = lls.length ∧ ∀ (i : Nat) (s : SV) (l : List Is), ss[i]? = some s → lls[i]? = some l → RdP w s.a s.n l ∧ s.n ≤ 1000
theorem InstsAt.mod0 {w w' : World} {G : Option Addr} {m : Nat} {ss : List SV} {lls : List (List Is)} (h : InstsAt w G m ss lls) (hm : Mod none_ w w') : InstsAt w' G m ss lls :=
 ⟨Rd.mod0 h.1 hm, h.2.1, fun i s l hs hl => ⟨(h.2.2 i s l hs hl).1.mod0 hm, (h.2.2 i s l hs hl).2⟩⟩
theorem InstsAt.len {w : World} {G : Option Addr} {m : Nat} {ss : List SV} {lls : List (List Is)} (h : InstsAt w G m ss lls) : lls.length = m := by
 have h1 := h.1.1
 rw [List.length_map] at h1
 have := h.2.1
 omega
theorem InstsAt.get {w : World} {G : Option Addr} {m : Nat} {ss : List SV} {lls : List (List Is)} (h : InstsAt w G m ss lls) {j : Nat} (hj : j < m) :
  ∃ b o A n c l, G = some ⟨b, o, none⟩ ∧ w.cell? ⟨b, o + j, none⟩ = some (.slice A n c) ∧ lls[j]? = some l ∧ RdP w A n l ∧ n ≤ 1000 := by
 obtain ⟨b, o, e, hc⟩ := Rd.form h.1 (show 0 < m by omega) (by omega)
 have hl := h.len
 have hs := h.2.1
 have hjs : j < ss.length := by omega
 have hjl : j < lls.length := by omega
 obtain ⟨h1, h2⟩ := h.2.2 j ss[j] lls[j] (List.getElem?_eq_getElem hjs) (List.getElem?_eq_getElem hjl)
 refine ⟨b, o, ss[j].a, ss[j].n, ss[j].c, lls[j], e, ?_, List.getElem?_eq_getElem hjl, h1, h2⟩
 exact hc j _ (by rw [List.getElem?_map, List.getElem?_eq_getElem hjs]; rfl)
def preP (lls : List (List Is)) (j : Nat) : Nat := (lls.take j).flatten.length
theorem preP_succ {lls : List (List Is)} {j : Nat} {l : List Is} (h : lls[j]? = some l) : (lls.take (j + 1)).flatten = (lls.take j).flatten ++ l ∧ preP lls (j + 1) = preP lls j + l.length := by
 have hj : j < lls.length := by
  rcases Nat.lt_or_ge j lls.length with hh | hh
  ·exact hh
  ·rw [List.getElem?_eq_none hh] at h; cases h
 rw [List.getElem?_eq_getElem hj] at h
 injection h with h
 have e : (lls.take (j + 1)).flatten = (lls.take j).flatten ++ l := by
  rw [List.take_succ_eq_append_getElem hj, List.flatten_append, h]; simp
 exact ⟨e, by unfold preP; rw [e, List.length_append]⟩
theorem growP_ok (w : World) (n : Nat) (hn : n ≤ 1000000000) : Calls Tryz.prog 57 #[.slice none 0 0, .int .i64 (n : Int)] w fun e w' =>
  ∃ A' c', e = .returned (.slice A' 0 c') ∧ OwP w' A' 0 c' [] ∧ Fresh w A' ∧ Mod none_ w w' := by
 obtain ⟨i0, hi, hz0, hz1, hz2⟩ := info_parts isinfo
 unfold zeroI at hz0
 rcases Nat.eq_zero_or_pos n with h0 | h0
 ·subst h0
  go_enter Tryz.func57, Tryz.ntmps57
  go_wp2
  go_ret
  exact ⟨none, 0, rfl, Ow.nil _ _ _, (fun _ h => by cases h), Mod.refl _ _⟩
 ·have hg1 := grownCap_le_maxLen w n 0 27 (by simp only [maxLen]; omega)
  have hg0 := grownCap_ge w n 0 27
  have hcl : ∀ c, c = grownCap w n 0 27 → c ≤ 9223372036854775807 := fun c hc => by rw [hc]; simpa [maxLen] using hg1
  go_enter Tryz.func57, Tryz.ntmps57
  go_wp2_with (at_builtin; refine wpList_append_zeros_nil rfl (.tmp 20) (.tmp 21) 22 3 rfl 27 .i64 i0 _ Tryz.underlying22 Tryz.underlying3 hi hz0 n h0 (by rw [hz2]; omega) (by omega) (by omega) rfl rfl ?_)
  go_ret
  refine ⟨some ⟨w.heap.size, 0, none⟩, grownCap w n 0 27, rfl, ⟨rfl, Nat.zero_le _, hg1, .inr ⟨w.heap.size, _, rfl, heap_alloc_new w.drew _, ?_, by simp [iss]⟩⟩, ?_, ((Mod.refl none_ w).drew).alloc _⟩
  ·simp only [Array.size_append, size_zeroCells]
   simp only [List.size_toArray, List.length_cons, List.length_nil]
   omega
  ·intro a ha; cases ha; exact Nat.le_refl _
theorem concatP_ok (w : World) (G : Option Addr) (m d : Nat) (ss : List SV) (lls : List (List Is)) (h : InstsAt w G m ss lls) (hm1 : m ≤ 1000) :
  Calls Tryz.prog 27 #[.slice G m d] w fun e w' =>
  ∃ A' c', e = .returned (.slice A' lls.flatten.length c') ∧ OwP w' A' lls.flatten.length c' lls.flatten ∧ Fresh w A' ∧ Mod none_ w w' := by
 have hl := h.len
 have hb : ∀ j, j ≤ m → preP lls j ≤ j * 1000 := by
  intro j
  induction j with
  | zero => intro _; unfold preP; simp
  | succ j ih =>
   intro hj
   have := ih (by omega)
   obtain ⟨b, o, A, n, c, l, _, _, hl2, hr, hn⟩ := h.get (show j < m by omega)
   have h2 := (preP_succ hl2).2
   have h3 := hr.len
   omega
 have hfull : lls.take m = lls := List.take_of_length_le (by omega)
 have hpm : preP lls m = lls.flatten.length := by unfold preP; rw [hfull]
 have hbm := hb m (by omega)
 have gr := zH (fun W => growP_ok W (preP lls m) (by omega))
 replace h := zH h
 replace hfull := zH hfull
 replace hb := zH hb
 replace hpm := zH hpm
 go_enter Tryz.func27, Tryz.ntmps27
 go_wp2_with fail
 go_loopw [3, 11] (fun s x wr => ∃ j : Nat, x = .int .i64 j ∧ s = .int .i64 (preP lls j : Nat) ∧ j ≤ m ∧ SameWp w wr) (fun _ x _ => m - (intOf x).toNat)
 case atStart => exact ⟨0, rfl, by unfold preP; simp, by omega, rfl⟩
 case round =>
  obtain ⟨j, rfl, rfl, hj, hw⟩ := hrel
  cases hw
  by_cases hlt : j < m
  ·obtain ⟨b, o, A, n, c, l, rfl, hc, hl2, hr, hn⟩ := h.out.get hlt
   have h2 := (preP_succ hl2).2
   have h3 := hr.len
   have h4 := hb.out j hj
   have h5 : j * 1000 ≤ 1000000 := by omega
   rw [h3] at h2
   generalize preP lls j = pj at *
   have h6 : wrap64 ((pj : Int) + (n : Int)) = ((pj + n : Nat) : Int) := by unfold wrap64; omega
   replace hl2 := zH hl2
   replace hr := zH hr
   replace h2 := zH h2
   replace h3 := zH h3
   go_wp2_with fail
   go_roundw
   case rel => exact ⟨j + 1, by go_num, by rw [h2.out]; simp, by omega, rfl⟩
   case measure => simp [intOf]; omega
  ·have hjm : j = m := by omega
   subst hjm
   go_wp2_with fail
   refine (gr.out _).mono ?_
   rintro e w1 ⟨A0, c0, rfl, ho0, hf0, hm0⟩
   dsimp only
   replace ho0 := zH ho0
   replace hf0 := zH hf0
   replace hm0 := zH hm0
   go_wp2_with fail
   go_loopw [6, 27] (fun v x wr => ∃ i : Nat, x = .int .i64 i ∧ i ≤ j ∧ ∃ A' c', v = .slice A' (preP lls i) c' ∧ OwP wr A' (preP lls i) c' (lls.take i).flatten ∧ Fresh w A' ∧ Mod none_ w wr) (fun _ x _ => j - (intOf x).toNat)
   case atStart =>
    refine ⟨0, rfl, by omega, A0, c0, ?_, ?_, hf0.out, hm0.out⟩
    ·unfold preP; simp
    ·have := ho0.out; unfold preP; simpa using this
   case round =>
    obtain ⟨i, rfl, hi, A', c', rfl, how, hf, hm⟩ := hrel
    by_cases hlt2 : i < j
    ·obtain ⟨b, o, A, n, c, l, rfl, hc, hl2, hr, hn⟩ := (h.out.mod0 hm).get hlt2
     obtain ⟨e1, e2⟩ := preP_succ hl2
     have h3 := hr.len
     have h4 := hb.out i hi
     have h5 : i * 1000 ≤ 1000000 := by omega
     rw [h3] at e2
     generalize preP lls i = pj at *
     replace how := zH how
     replace hf := zH hf
     replace hm := zH hm
     replace hl2 := zH hl2
     replace hr := zH hr
     replace e1 := zH e1
     replace e2 := zH e2
     replace h3 := zH h3
     go_wp2_with (at_builtin; go_loud (refine appPc rfl (.tmp 31) (.tmp 32) rfl rfl how.out rfl hr.out (by omega) ?_; intro A2 c2 w2 ho2 hm2 hA2; replace ho2 := zH ho2; replace hm2 := zH hm2; replace hA2 := zH hA2))
     go_roundw
     case rel =>
      refine ⟨i + 1, by go_num, by omega, A2, c2, by rw [e2.out], ?_, Fresh.app hf.out hm.out.size hA2.out, hm.out.app hf.out hm2.out⟩
      rw [e2.out, e1.out]; exact ho2.out
     case measure => simp [intOf]; omega
    ·have hij : i = j := by omega
     subst hij
     rw [hfull.out] at how
     rw [hpm.out] at how ⊢
     replace how := zH how
     replace hf := zH hf
     replace hm := zH hm
     go_wp2_with fail
     go_ret
     exact ⟨A', c', rfl, how.out, hf.out, hm.out⟩
end Go.Proofs.YtfkfiokkjjnhiaaGreat
namespace Go.Proofs.YtfkfiokkjjnhiaaGreat
open Go.RowKit
open Go.Shelf Go.Sort Go.Lib
set_option maxRecDepth 100000
theorem rcmp_lay (w : World) (a b : Is) : Calls Tryz.prog 29 #[.agg #[.int .i64 a.r, .int .i64 a.n], .agg #[.int .i64 b.r, .int .i64 b.n]] w fun e w' => e = .returned (.int .i64 (cmpIs a b)) ∧ Lay w w' := by
 obtain ⟨ar, an⟩ := a
 obtain ⟨br, bn⟩ := b
 dsimp only
 have kC := zH (fun W a b => cmpI_ok W a b)
 obtain ⟨z, hz⟩ : ∃ z, cmpIs ⟨ar, an⟩ ⟨br, bn⟩ = z := ⟨_, rfl⟩
 rw [hz]
 have kO := zH (fun W b h => show Calls Tryz.prog 60 #[.slice (some ⟨b, 0, none⟩) 2 2] W (fun e w' => e = .returned (.int .i64 z) ∧ W = w') from by
  rw [← hz]; exact or2_ok W b (cmpI ar br) (cmpI an bn) h)
 clear hz
 go_enter Tryz.func29, Tryz.ntmps29
 go_wp2_with fail
 go_region_held3 (fun W => W.cell? ⟨w.heap.size, 0, none⟩ = some (.int .i64 ar) ∧ W.cell? ⟨w.heap.size, 1, none⟩ = some (.int .i64 an) ∧ W.cell? ⟨w.heap.size + 1, 0, none⟩ = some (.int .i64 br) ∧ W.cell? ⟨w.heap.size + 1, 1, none⟩ = some (.int .i64 bn)) (go_keep)
  (first | (go_at_call 61; with_reducible refine (kC.out _ _ _).mono ?_; rintro e w1 ⟨rfl, rfl⟩) | (go_at_call 60; refine (kO.out _ _ (by show RdI _ _ _ _; exact rdn _ _ 1 2 _ _ (0, 0) (by simp) rfl)).mono ?_; rintro e w1 ⟨rfl, rfl⟩))
 go_wp2_with fail
 go_ret
 exact ⟨rfl, ((((Lay.refl w).alloc _).alloc _).alloc _).drew⟩
theorem rcmp_enter : ∀ args w, (callFunc 29 args).run Tryz.prog w = .ok (.enter 29 args) w := fun _ _ => rfl
theorem sortU_ok (W : World) (A : Option Addr) (n cap : Nat) (xs : List Is) (how : OwP W A n cap xs) (hn : n ≤ 1000000) :
  Calls Tryz.prog 28 #[.slice A n cap, .func (.func 29) #[] #[]] W fun e w' =>
   e = .returned (.tuple #[]) ∧ ∃ ys : List Is, ys.Perm xs ∧ Rise ys ∧ OwP w' A n cap ys ∧ Mod (fp A) W w' := by
 have hl := how.len
 rcases how.2.2.2 with ⟨rfl, h0, h1⟩ | ⟨g, cur, rfl, hb, h5, h6⟩
 ·have hx : xs = [] := List.eq_nil_of_length_eq_zero (by omega)
  have kN := AnyF.slices_SortFunc_none (P := Tryz.prog) Tryz.sortf28 none cap (.func (.func 29) #[] #[]) W
  have hn0 : n = 0 := by omega
  subst hn0
  refine Calls.mono (show Calls Tryz.prog 28 #[.slice none 0 cap, .func (.func 29) #[] #[]] W _ from kN) ?_
  rintro e w' ⟨rfl, rfl⟩
  exact ⟨rfl, xs, List.Perm.refl _, by rw [hx]; exact List.Pairwise.nil, how, Mod.refl _ _⟩
 ·refine (sortI_ok _ rcmp_enter (fun W x y => rcmp_lay W x y) W g n cap xs how hn).mono ?_
  rintro e w' ⟨rfl, ys, hp, hs, ho, hm⟩
  exact ⟨rfl, ys, hp, hs, ho, hm.mono (fun k hk => ⟨_, rfl, hk.symm⟩)⟩
def UniPost (w : World) (a b : List Is) (e : Ending) (w' : World) : Prop :=
 ∃ A n c u, e = .returned (.slice A n c) ∧ Up u ∧ (∀ x, x ∈ u ↔ x ∈ a ∨ x ∈ b) ∧ u.length ≤ a.length + b.length ∧ OwP w' A n c u ∧ Fresh w A ∧ Mod none_ w w'
theorem union_ok (w : World) (A B : Option Addr) (n m c d : Nat) (a b : List Is) (ha : RdP w A n a) (hb : RdP w B m b) (hn : n ≤ 1000) (hm : m ≤ 1000) :
  Calls Tryz.prog 7 #[.slice A n c, .slice B m d] w (UniPost w a b) := by
 have hla := ha.len
 have hlb := hb.len
 have hm0 := (Mod.refl none_ w).alloc (.cells #[.slice A n c, .slice B m d] 22)
 have hat : InstsAt (w.alloc (.cells #[.slice A n c, .slice B m d] 22)) (some ⟨w.heap.size, 0, none⟩) 2 [⟨A, n, c⟩, ⟨B, m, d⟩] [a, b] := by
  refine ⟨rdn w _ 1 2 _ _ (0, 0) rfl rfl, rfl, fun i s l hs hl => ?_⟩
  match i, hs, hl with
  | 0, hs, hl => cases hs; cases hl; exact ⟨ha.mod0 hm0, hn⟩
  | 1, hs, hl => cases hs; cases hl; exact ⟨hb.mod0 hm0, hm⟩
 have kC := zH (concatP_ok _ _ 2 2 _ _ hat (by omega))
 have hfl : [a, b].flatten = a ++ b := by simp
 rw [hfl] at kC
 clear ha hb hat hfl
 replace hm0 := zH hm0
 go_enter Tryz.func7, Tryz.ntmps7
 go_wp2_with fail
 refine kC.out.mono ?_
 rintro e w1 ⟨A1, c1, rfl, ho1, hf1, hm1⟩
 dsimp only
 have hM1 := zH (hm0.out.trans hm1)
 have hF1 := zH (show Fresh w A1 from fun x hx => Nat.le_trans hm0.out.size (hf1 x hx))
 have hlen : (a ++ b).length = n + m := by rw [List.length_append, hla, hlb]
 generalize hN : (a ++ b).length = N at *
 subst hlen
 have kS := zH (sortU_ok w1 A1 (n + m) c1 (a ++ b) ho1 (by omega))
 clear kC ho1 hf1 hm1 hm0
 replace hN := zH hN
 go_wp2_with fail
 refine kS.out.mono ?_
 rintro e w2 ⟨rfl, ys, hp, hr, ho2, hm2⟩
 dsimp only
 have hM2 := zH (hM1.out.app hF1.out hm2)
 have kD := zH (compactP_ok w2 A1 (n + m) c1 ys ho2 (by omega))
 have hup := zH (rise_perm hp hr)
 have hyl := zH hp.length_eq
 clear kS hp hr ho2 hm2
 go_wp2_with fail
 refine kD.out.mono ?_
 rintro e w3 ⟨m3, rfl, hm3l, ho3, hm3⟩
 dsimp only
 have hM3 := zH (hM2.out.app hF1.out hm3)
 have hdl := ddl_len ys
 replace ho3 := zH ho3
 replace hm3l := zH hm3l
 replace hm3 := zH hm3
 go_wp2_with fail
 go_ret
 refine ⟨A1, m3, c1, ddl ys, rfl, hup.out.1, fun x => by rw [hup.out.2]; simp, ?_, ho3.out, hF1.out, hM3.out⟩
 have := hyl.out
 rw [List.length_append] at this
 omega
instance : Inhabited Rs := ⟨⟨⟨⟨0, 0⟩, 0, 0, 0, en0⟩, ⟨none, 0, 0⟩, ⟨none, 0, 0⟩⟩⟩
theorem ltR_iff (x y : Rs) : ltOf cfR x y = isLt x.r.i y.r.i := by
 unfold ltOf cfR
 cases isLt x.r.i y.r.i with
 | true => simp
 | false =>
  simp only [Bool.false_eq_true, if_false]
  split <;> simp
theorem swoR : SWO (ltOf cfR) where
 irrefl x := by rw [ltR_iff]; unfold isLt; simp
 trans x y z h1 h2 := by
  rw [ltR_iff] at *
  unfold isLt at *
  simp only [decide_eq_true_eq] at *
  omega
 ntrans x y z h1 h2 := by
  rw [ltR_iff] at *
  unfold isLt at *
  simp only [decide_eq_false_iff_not] at *
  omega
theorem flatK_rss (d : List Rs) : (flatK rsC 17 d.toArray).toList = rss d := by
 apply List.ext_getElem?
 intro t
 by_cases ht : t < d.length * 17
 ·have h1 : t / 17 < d.length := by omega
  have h2 : t % 17 < 17 := by omega
  have e1 : (flatK rsC 17 d.toArray).toList[t]? = some ((flatK rsC 17 d.toArray)[t]!) := by
   rw [Array.getElem?_toList, getElem!_pos _ t (by simpa using ht), Array.getElem?_eq_getElem (by simpa using ht)]
  rw [e1, get_flatK rsC 17 d.toArray t (by simpa using ht)]
  have e2 := flat_get rsC 17 (fun _ => rfl) d (t / 17) d[t / 17] (List.getElem?_eq_getElem h1) (t % 17) h2
  have e3 : t / 17 * 17 + t % 17 = t := by omega
  rw [e3] at e2
  unfold rss
  have e4 : d.toArray[t / 17]! = d[t / 17] := by rw [getElem!_pos _ _ (by simpa using h1)]; simp
  rw [e2, e4, getElem!_pos (rsC d[t / 17]) (t % 17) (by rw [rsC_len]; exact h2), List.getElem?_eq_getElem (by rw [rsC_len]; exact h2)]
 ·rw [List.getElem?_eq_none (by simp; omega), List.getElem?_eq_none (by rw [rss_length]; omega)]
theorem heap_sortR {W : World} {g n : Nat} {e : TypeId} {cur : Array Value} (os : Array Obj) (d : Array Rs) (hb : Blk W g e cur) : Blk (sortWorldK rsC 17 W g 0 n d os) g e (putCells id 0 (flatK rsC 17 d) cur) := by
 have hg : g < W.heap.size := hb.lt
 unfold Blk sortWorldK putRowK putRow mapBlock
 show (_ ++ os)[g]? = _
 rw [Array.getElem?_append_left (by simp [Sort.ahead]; exact hg)]
 show (W.heap.modify g _)[g]? = _
 rw [Array.getElem?_eq_getElem (by rw [Array.size_modify]; exact hg), Array.getElem_modify_self]
 have := Array.getElem?_eq_some_iff.1 hb
 rw [this.2]
 rfl
theorem mod_sortR {W : World} {g n : Nat} (os : Array Obj) (d : Array Rs) : Mod (only g) W (sortWorldK rsC 17 W g 0 n d os) := by
 unfold sortWorldK putRowK putRow mapBlock
 refine ⟨rfl, rfl, rfl, by simp [Sort.grow, Sort.ahead], fun k hk hne => ?_⟩
 show (_ ++ os)[k]? = _
 rw [Array.getElem?_append_left (by simp [Sort.ahead]; exact hk)]
 show (W.heap.modify g _)[k]? = _
 have : g ≠ k := fun e => hne (by rw [e]; exact rfl)
 simp [Array.getElem?_modify, this]
theorem take_putCellsR (cur F : Array Value) (h : F.size ≤ cur.size) : (putCells id 0 F cur).toList.take F.size = F.toList := by
 apply List.ext_getElem?
 intro j
 by_cases hj : j < F.size
 ·rw [List.getElem?_take_of_lt hj, Array.getElem?_toList]
  simp [putCells, hj, show j < cur.size by omega]
 ·rw [List.getElem?_take_eq_none (by omega), List.getElem?_eq_none (by simp; omega)]
theorem sortR_ok (W : World) (g n cap : Nat) (xs : List Rs) (how : OwR W (some ⟨g, 0, none⟩) n cap xs) (hn : n ≤ 1000000) :
  Calls Tryz.prog 166 #[.slice (some ⟨g, 0, none⟩) n cap, .func (.func 95) #[] #[]] W fun e w' =>
   e = .returned (.tuple #[]) ∧ ∃ ys : List Rs, ys.Perm xs ∧ (ys.Pairwise fun a b => isLt b.r.i a.r.i = false) ∧ OwR w' (some ⟨g, 0, none⟩) n cap ys ∧ Mod (only g) W w' := by
 have hl := how.len
 obtain ⟨h1, h2, h3, h4⟩ := how
 rcases h4 with ⟨h4, _⟩ | ⟨g', cur, h4, hb, h5, h6⟩
 ·cases h4
 ·cases h4
  have hH : HoldsK rsC 17 W g 0 xs.toArray := by
   intro j hj
   have hj' : j < xs.length * 17 := by simpa using hj
   refine ⟨?_, hb.frozen _⟩
   rw [Nat.zero_add, hb.cell]
   have e1 := flatK_rss xs
   have e2 : cur[j]? = (rss xs)[j]? := by
    rw [← h6, List.getElem?_take, if_pos (by rw [← hl]; exact hj'), Array.getElem?_toList]
   rw [e2, ← e1, Array.getElem?_toList, Array.getElem?_eq_getElem hj, getElem!_pos _ j hj]
   rfl
  have hcmp : CmpLays Tryz.prog 95 #[] rsC 17 cfR g 0 xs.toArray.size W := fun m os dk hs x y => lastCmp_ok _ x y
  have hk := AnyQ.slices_SortFunc (P := Tryz.prog) Tryz.sortf166 17 (fun w => by kernel_rfl) (fun w => by kernel_rfl) rsC (fun _ => rfl) (fun x v hv => rss_one [x] v (by unfold rss; simpa using hv)) cfR swoR 95 #[] g 0 cap xs.toArray W (fun _ _ => rfl) hcmp hH hb.lt (by have := h3; simp only [maxLen] at this; simp; omega)
  have hsz : xs.toArray.size = n := by simpa using hl
  rw [hsz] at hk
  refine Calls.mono (show Calls Tryz.prog 166 #[.slice (some ⟨g, 0, none⟩) n cap, .func (.func 95) #[] #[]] W _ from hk) ?_
  rintro e w' ⟨rfl, d', n', os, hp, hs, rfl⟩
  refine ⟨rfl, d'.toList, ?_, ?_, ?_, mod_sortR os d'⟩
  ·obtain ⟨p1, p2, p3⟩ := hp
   have a1 : d'.extract 0 n = d' := by rw [← hsz, ← p1]; simp
   have a2 : xs.toArray.extract 0 n = xs.toArray := by rw [← hsz]; simp
   rw [a1, a2] at p3
   simpa using p3
  ·obtain ⟨p1, _, _⟩ := hp
   rw [List.pairwise_iff_getElem]
   intro i j hi hj hij
   have hj' : j < d'.size := by simpa using hj
   have hi' : i < d'.size := by simpa using hi
   have := hs i j (Nat.zero_le _) hij (by rw [← hsz, ← p1]; exact hj')
   rw [ltR_iff, getElem!_pos d' j hj', getElem!_pos d' i hi'] at this
   simpa using this
  ·obtain ⟨p1, _, _⟩ := hp
   have hdl : d'.toList.length = n := by rw [Array.length_toList, p1, hsz]
   have e1 : (flatK rsC 17 d').toList = rss d'.toList := by have := flatK_rss d'.toList; simpa using this
   have hFs : (flatK rsC 17 d').size = n * 17 := by rw [size_flatK, p1, hsz]
   refine ⟨by rw [rss_length, hdl], h2, h3, .inr ⟨g, _, rfl, heap_sortR os d' hb, by simp [putCells]; exact h5, ?_⟩⟩
   rw [← hFs, take_putCellsR _ _ (by rw [hFs]; have := Nat.mul_le_mul_right 17 h2; omega), e1]
end Go.Proofs.YtfkfiokkjjnhiaaGreat
