import Derived.Test.YtaohgefpnndjcaaSq14
import Derived.Test.YtaohgefpnndjcaaSq8
import Derived.Test.YtaohgefpnndjcaaSq13
import Derived.Test.YtaohgefpnndjcaaSq1
import Derived.Test.YtaohgefpnndjcaaSq9
/-
  What Net answers does not hang on the row; its sums add up to all. Plain.
-/
namespace Go.Proofs.Ytaohgefpnndjcaa
set_option linter.unusedVariables false
open Go.RowKit
theorem sorted_same : ∀ {a b : List (List UInt8)}, a.Pairwise (fun x y => bytesBefore x y = true) → b.Pairwise (fun x y => bytesBefore x y = true) → (∀ s, s ∈ a ↔ s ∈ b) → a = b
  | [], [], _, _, _ => rfl
  | [], y :: b, _, _, h => absurd ((h y).2 (by simp)) (by simp)
  | x :: a, [], _, _, h => absurd ((h x).1 (by simp)) (by simp)
  | x :: a, y :: b, ha, hb, h => by
    rw [List.pairwise_cons] at ha hb
    have hxy : x = y := by
      rcases List.mem_cons.1 ((h x).1 (by simp)) with e | hx
      · exact e
      · rcases List.mem_cons.1 ((h y).2 (by simp)) with e | hy
        · exact e.symm
        · have h1 := ha.1 y hy
          have h2 := hb.1 x hx
          rw [bb_asymm h1] at h2; cases h2
    subst hxy
    rw [sorted_same ha.2 hb.2 fun s => ?_]
    constructor
    · intro hs
      rcases List.mem_cons.1 ((h s).1 (List.mem_cons_of_mem _ hs)) with e | h1
      · have := ha.1 s hs; rw [e, bb_irrefl] at this; cases this
      · exact h1
    · intro hs
      rcases List.mem_cons.1 ((h s).2 (List.mem_cons_of_mem _ hs)) with e | h1
      · have := hb.1 s hs; rw [e, bb_irrefl] at this; cases this
      · exact h1
theorem sums_perm {ls ms : List Lg} (h : ls.Perm ms) (s : List UInt8) : isum (sumsOf ls s) = isum (sumsOf ms s) := isum_perm ((h.filter _).map _)
theorem out_eq {ls ms : List Lg} (h : ∀ s, isum (sumsOf ls s) = isum (sumsOf ms s)) (N : List (List UInt8)) : outL ls N = outL ms N := by
  unfold outL
  have e : (fun s => !(isum (sumsOf ls s) == 0)) = fun s => !(isum (sumsOf ms s) == 0) := by funext s; rw [h s]
  rw [e]
  exact List.map_congr_left fun s _ => by rw [h s]
theorem out_sum (ls : List Lg) : ∀ N : List (List UInt8), isum ((outL ls N).map fun l => l.x) = isum (N.map fun s => isum (sumsOf ls s))
  | [] => rfl
  | s :: N => by
    have ih := out_sum ls N
    have e : outL ls (s :: N) = if isum (sumsOf ls s) = 0 then outL ls N else ⟨s, isum (sumsOf ls s)⟩ :: outL ls N := by
      unfold outL
      by_cases e : isum (sumsOf ls s) = 0
      · rw [if_pos e, List.filter_cons_of_neg (by simp [e])]
      · rw [if_neg e, List.filter_cons_of_pos (by simpa using e)]; rfl
    rw [e, List.map_cons, isum_cons, ← ih]
    by_cases e : isum (sumsOf ls s) = 0
    · rw [if_pos e, e]; omega
    · rw [if_neg e, List.map_cons, isum_cons]
theorem isum_one (x : Int) (t : List UInt8) (g : List UInt8 → Int) : ∀ N : List (List UInt8), N.Nodup → isum (N.map fun s => (if t = s then x else 0) + g s) = (if t ∈ N then x else 0) + isum (N.map g)
  | [], _ => by simp [isum_nil]
  | s :: N, h => by
    rw [List.nodup_cons] at h
    have ih := isum_one x t g N h.2
    rw [List.map_cons, List.map_cons, isum_cons, isum_cons, ih]
    by_cases e : t = s
    · subst e
      rw [if_pos rfl, if_neg h.1, if_pos (by simp)]; omega
    · rw [if_neg e]
      by_cases e2 : t ∈ N
      · rw [if_pos e2, if_pos (List.mem_cons_of_mem _ e2)]; omega
      · rw [if_neg e2, if_neg (by simp; exact ⟨e, e2⟩)]; omega
theorem sums_all (N : List (List UInt8)) (hn : N.Nodup) : ∀ ls : List Lg, (∀ l ∈ ls, l.n ∈ N) → isum (N.map fun s => isum (sumsOf ls s)) = isum (ls.map fun l => l.x)
  | [], _ => by
    have : ∀ N : List (List UInt8), isum (N.map fun s => isum (sumsOf [] s)) = 0 := by
      intro N
      induction N with
      | nil => rfl
      | cons s N ih => rw [List.map_cons, isum_cons, ih]; rfl
    rw [this]; rfl
  | l :: ls, h => by
    have ih := sums_all N hn ls fun m hm => h m (List.mem_cons_of_mem _ hm)
    have e : (fun s => isum (sumsOf (l :: ls) s)) = fun s => (if l.n = s then l.x else 0) + isum (sumsOf ls s) := by
      funext s
      unfold sumsOf
      by_cases e : l.n = s
      · rw [if_pos e, List.filter_cons_of_pos (by simpa using e), List.map_cons, isum_cons]
      · rw [if_neg e, List.filter_cons_of_neg (by simpa using e)]; omega
    rw [e, isum_one _ _ _ N hn, if_pos (h l (by simp)), ih, List.map_cons, isum_cons]
theorem sorted_nodup {N : List (List UInt8)} (h : N.Pairwise fun a b => bytesBefore a b = true) : N.Nodup := h.imp fun h => bb_ne h
theorem out_names {ls : List Lg} {N : List (List UInt8)} (h : N.Pairwise fun a b => bytesBefore a b = true) : (outL ls N).Pairwise fun a b => bytesBefore a.n b.n = true := by
  unfold outL
  rw [List.pairwise_map]
  exact h.filter _
theorem out_nz {ls : List Lg} {N : List (List UInt8)} : ∀ l ∈ outL ls N, l.x ≠ 0 := by
  intro l hl
  unfold outL at hl
  obtain ⟨s, hs, rfl⟩ := List.mem_map.1 hl
  have := (List.mem_filter.1 hs).2
  simpa using this
theorem isum_le (B : Int) : ∀ xs : List Int, (∀ x ∈ xs, -B ≤ x ∧ x ≤ B) → -(B * (xs.length : Int)) ≤ isum xs ∧ isum xs ≤ B * (xs.length : Int)
  | [], _ => by simp [isum_nil]
  | x :: xs, h => by
    have ih := isum_le B xs fun y hy => h y (List.mem_cons_of_mem _ hy)
    have hx := h x (by simp)
    rw [isum_cons, List.length_cons]
    have : B * ((xs.length + 1 : Nat) : Int) = B * (xs.length : Int) + B := by rw [Int.natCast_add, Int.mul_add]; simp
    rw [this]
    omega
/-- a leg's sum, cut to 2^40 -/
def cutL (l : Lg) : Lg := ⟨l.n, l.x.tmod 1099511627776⟩
def SmallL (l : Lg) : Prop := -1099511627776 ≤ l.x ∧ l.x ≤ 1099511627776
theorem cut_small (l : Lg) : SmallL (cutL l) := by
  unfold SmallL cutL
  dsimp only
  have h1 := Int.tmod_lt_of_pos l.x (show (0 : Int) < 1099511627776 by omega)
  have h2 := Int.lt_tmod_of_pos l.x (show (0 : Int) < 1099511627776 by omega)
  omega
theorem small_sum {xs : List Lg} (h : ∀ l ∈ xs, SmallL l) (hl : xs.length ≤ 100) : -109951162777600 ≤ isum (xs.map fun l => l.x) ∧ isum (xs.map fun l => l.x) ≤ 109951162777600 := by
  have := isum_le 1099511627776 (xs.map fun l => l.x) fun y hy => by
    obtain ⟨l, hl, rfl⟩ := List.mem_map.1 hy
    exact h l hl
  rw [List.length_map] at this
  omega
theorem small_sums {xs : List Lg} (h : ∀ l ∈ xs, SmallL l) (hl : xs.length ≤ 100) (s : List UInt8) : inI (isum (sumsOf xs s)) = true := by
  have := small_sum (xs := xs.filter fun l => l.n == s) (fun l hm => h l (List.mem_filter.1 hm).1) (Nat.le_trans (List.length_filter_le _ _) hl)
  unfold sumsOf
  exact inI_yes.2 (by omega)
/-- Net of a row and of its rotation: the same, rising, without 0, and together what all are -/
theorem net_same {ls ms : List Lg} (hp : ls.Perm ms) {N M : List (List UInt8)} (hN : N.Pairwise fun a b => bytesBefore a b = true) (hM : M.Pairwise fun a b => bytesBefore a b = true) (h1 : ∀ s, s ∈ N ↔ ∃ l ∈ ls, l.n = s) (h2 : ∀ s, s ∈ M ↔ ∃ l ∈ ms, l.n = s) :
    outL ls N = outL ms M ∧ isum ((outL ls N).map fun l => l.x) = isum (ls.map fun l => l.x) := by
  have e : N = M := sorted_same hN hM fun s => by
    rw [h1, h2]
    constructor
    · rintro ⟨l, hl, e⟩; exact ⟨l, hp.mem_iff.1 hl, e⟩
    · rintro ⟨l, hl, e⟩; exact ⟨l, hp.mem_iff.2 hl, e⟩
  subst e
  exact ⟨out_eq (sums_perm hp) N, by rw [out_sum, sums_all N (sorted_nodup hN) ls fun l hl => (h1 l.n).2 ⟨l, hl, rfl⟩]⟩
theorem flat_rot (lls : List (List Lg)) (k : Nat) : (lls.drop k ++ lls.take k).flatten.Perm lls.flatten := by
  rw [List.flatten_append]
  refine List.perm_append_comm.trans ?_
  rw [← List.flatten_append, List.take_append_drop]
theorem nodup_len : ∀ {a b : List (List UInt8)}, a.Nodup → (∀ s ∈ a, s ∈ b) → a.length ≤ b.length
  | [], _, _, _ => Nat.zero_le _
  | x :: a, b, h, hm => by
    rw [List.nodup_cons] at h
    have h1 : x ∈ b := hm x (by simp)
    have := nodup_len (a := a) (b := b.erase x) h.2 fun s hs => (List.mem_erase_of_ne (fun e : s = x => h.1 (by rw [← e]; exact hs))).2 (hm s (List.mem_cons_of_mem _ hs))
    rw [List.length_erase_of_mem h1] at this
    have := List.length_pos_of_mem h1
    rw [List.length_cons]
    omega
theorem out_few {ls : List Lg} {N : List (List UInt8)} (h : N.Pairwise fun a b => bytesBefore a b = true) (hm : ∀ s, s ∈ N ↔ ∃ l ∈ ls, l.n = s) : (outL ls N).length ≤ ls.length := by
  have h1 : (outL ls N).length ≤ N.length := by unfold outL; rw [List.length_map]; exact List.length_filter_le _ _
  have h2 := nodup_len (b := ls.map fun l => l.n) (sorted_nodup h) fun s hs => by
    obtain ⟨l, hl, e⟩ := (hm s).1 hs
    exact List.mem_map.2 ⟨l, hl, e⟩
  rw [List.length_map] at h2
  omega
/-- the sum of legs, as int64 has it -/
def ws (xs : List Lg) : Int := wrap64 (isum (xs.map fun l => l.x))
theorem ws_nil : ws [] = 0 := by unfold ws; rw [List.map_nil, isum_nil]; unfold wrap64; omega
theorem wrap_add (a b : Int) : wrap64 (wrap64 a + b) = wrap64 (a + b) := by unfold wrap64; omega
theorem ws_snoc (xs : List Lg) (l : Lg) : wrap64 (ws xs + l.x) = ws (xs ++ [l]) := by
  unfold ws
  rw [wrap_add, List.map_append, isum_append]
  congr 1
  show _ = _ + isum [l.x]
  rw [isum_cons, isum_nil]; omega
theorem less_before : ∀ a b : List UInt8, Op.bytesLess a b = bytesBefore a b
  | [], [] => rfl
  | [], _ :: _ => rfl
  | _ :: _, [] => rfl
  | a :: x, b :: y => by
    unfold Op.bytesLess bytesBefore
    rw [less_before x y]
end Go.Proofs.Ytaohgefpnndjcaa
/-
  Lists of lists of legs: as an argument, and one that the call makes.
-/
namespace Go.Proofs.Ytaohgefpnndjcaa
set_option linter.unusedVariables false
open Go.ChangeShapes Go.WideShapes Go.ChangeAt Go.RowKit Go.Deep
def LLs (w : World) (A : Option Addr) (n : Nat) (ss : List SV) (lls : List (List Lg)) : Prop :=
  Rd w 1 A n (ss.map SV.v) ∧ ss.length = lls.length ∧ ∀ (i : Nat) (s : SV) (l : List Lg), ss[i]? = some s → lls[i]? = some l → RdL w s.a s.n l ∧ s.n ≤ s.c ∧ ∀ x ∈ l, LgOk x
theorem LLs.len {w : World} {A : Option Addr} {n : Nat} {ss : List SV} {lls : List (List Lg)} (h : LLs w A n ss lls) : lls.length = n := by
  have h1 := h.1.1
  rw [List.length_map] at h1
  have := h.2.1
  omega
theorem LLs.mod0 {w w' : World} {A : Option Addr} {n : Nat} {ss : List SV} {lls : List (List Lg)} (h : LLs w A n ss lls) (hm : Mod none_ w w') : LLs w' A n ss lls :=
  ⟨Rd.mod0 h.1 hm, h.2.1, fun i s l hs hl => ⟨(h.2.2 i s l hs hl).1.mod0 hm, (h.2.2 i s l hs hl).2⟩⟩
theorem LLs.get {w : World} {A : Option Addr} {n : Nat} {ss : List SV} {lls : List (List Lg)} (h : LLs w A n ss lls) {j : Nat} (hj : j < n) :
    ∃ b o B k c l, A = some ⟨b, o, none⟩ ∧ w.cell? ⟨b, o + j, none⟩ = some (.slice B k c) ∧ lls[j]? = some l ∧ RdL w B k l ∧ k ≤ c ∧ ∀ x ∈ l, LgOk x := by
  obtain ⟨b, o, e, hc⟩ := Rd.form h.1 (show 0 < n by omega) (by omega)
  have hl := h.len
  have hs := h.2.1
  have hjs : j < ss.length := by omega
  have hjl : j < lls.length := by omega
  have h1 := hc j (.slice ss[j].a ss[j].n ss[j].c) (by rw [List.getElem?_map, List.getElem?_eq_getElem hjs]; rfl)
  have h2 := h.2.2 j ss[j] lls[j] (List.getElem?_eq_getElem hjs) (List.getElem?_eq_getElem hjl)
  exact ⟨b, o, ss[j].a, ss[j].n, ss[j].c, lls[j], e, h1, List.getElem?_eq_getElem hjl, h2.1, h2.2.1, h2.2.2⟩
set_option maxRecDepth 100000 in
theorem open_llegs {H : Type} {enc : TypeId × Value → H} {w : World} {held : Bool} {fuel : Nat} {cs : List Value} {x : DataW H × List MemPlace}
    (h : DataW.trod enc Try.prog w 0 (fun _ => true) held fuel 47 cs = some x) (hw : Wd Try.prog 47 x.1) :
    ∃ (A : Option Addr) (n c : Nat) (ss : List SV) (lls : List (List Lg)), cs = [.slice A n c] ∧ n ≤ c ∧ LLs w A n ss lls := by
  obtain ⟨A, n, c, css, D, rfl, hc, hi⟩ := open_any Try.underlying47 (by kernel_rfl : Try.prog.cellsOf 23 = 1) (by omega) h hw
  have hch : ∀ i, i < n → ∃ e : SV × List Lg, css i = [e.1.v] ∧ RdL w e.1.a e.1.n e.2 ∧ e.1.n ≤ e.1.c ∧ ∀ x ∈ e.2, LgOk x := by
    intro i hin
    obtain ⟨_, hwd, m, pl, htr⟩ := hi i hin
    obtain ⟨B, k, d, l, hcs, h1, h2, h3⟩ := open_legs htr hwd
    exact ⟨(⟨B, k, d⟩, l), hcs, h1, h2, h3⟩
  obtain ⟨es, hl, hz⟩ := list_choice _ n hch
  have e1 : (List.range n).flatMap css = (es.map (·.1)).map SV.v := by
    rw [← hl, flat_range (fun e : SV × List Lg => [e.1.v]) css es fun i e hie => (hz i e hie).1]
    clear hz hl
    induction es with
    | nil => rfl
    | cons z zs ih => simp [List.flatMap_cons, ih]
  rw [e1] at hc
  refine ⟨A, n, c, es.map (·.1), es.map (·.2), rfl, hc.2.1, hc.1, by simp, fun i s l hs hl2 => ?_⟩
  rw [List.getElem?_map] at hs hl2
  cases he : es[i]? with
  | none => rw [he] at hs; cases hs
  | some e =>
    rw [he] at hs hl2
    cases hs; cases hl2
    exact (hz i e he).2
/-- a list of lists of legs that the call makes -/
def LLOwn (w : World) (G : Option Addr) (m c : Nat) (ss : List SV) (lls : List (List Lg)) : Prop :=
  Ow w 23 1 G m c (ss.map SV.v) ∧ ss.length = lls.length ∧ ∀ (i : Nat) (s : SV) (l : List Lg), ss[i]? = some s → lls[i]? = some l → RdL w s.a s.n l ∧ s.n ≤ 8 ∧ (0 < s.n → ∀ k, fp s.a k → ¬ fp G k)
section
variable {w w' : World} {G : Option Addr} {m c : Nat} {ss : List SV} {lls : List (List Lg)}
theorem LLOwn.nil (w : World) : LLOwn w none 0 0 [] [] := ⟨Ow.nil _ _ _, rfl, fun i s l hs _ => by simp at hs⟩
theorem LLOwn.len (h : LLOwn w G m c ss lls) : lls.length = m := by
  have := h.1.1
  rw [List.length_map] at this
  rw [← h.2.1]; omega
theorem LLOwn.mod0 (h : LLOwn w G m c ss lls) (hm : Mod none_ w w') : LLOwn w' G m c ss lls :=
  ⟨h.1.mod0 hm, h.2.1, fun i s l hs hl => ⟨(h.2.2 i s l hs hl).1.mod0 hm, (h.2.2 i s l hs hl).2⟩⟩
theorem LLOwn.at (h : LLOwn w G m c ss lls) : LegsAt w G m ss lls :=
  ⟨Ow.rd h.1, h.2.1, fun i s l hs hl => ⟨(h.2.2 i s l hs hl).1, by have := (h.2.2 i s l hs hl).2.1; omega⟩⟩
theorem LLOwn.flat (h : LLOwn w G m c ss lls) : lls.flatten.length ≤ 8 * m := by
  have h1 : ∀ l ∈ lls, l.length ≤ 8 := by
    intro l hl
    obtain ⟨i, hi1, hi2⟩ := List.getElem_of_mem hl
    have hi3 : i < ss.length := by rw [h.2.1]; exact hi1
    have := h.2.2 i ss[i] l (List.getElem?_eq_getElem hi3) (by rw [List.getElem?_eq_getElem hi1, hi2])
    rw [this.1.len]; exact this.2.1
  have h2 := h.len
  clear h
  subst h2
  induction lls with
  | nil => simp
  | cons l lls ih =>
    have := ih fun l hl => h1 l (List.mem_cons_of_mem _ hl)
    have := h1 l (by simp)
    simp only [List.flatten_cons, List.length_append, List.length_cons] at *
    omega
theorem LLOwn.push (h : LLOwn w G m c ss lls) {s : SV} {l : List Lg} (h1 : RdL w s.a s.n l) (h2 : s.n ≤ 8) (h3 : 0 < s.n → ∀ k, fp s.a k → ¬ fp G k) {w1 : World} {G' : Option Addr} {c' : Nat} (hown : Ow w1 23 1 G' (m + 1) c' (ss.map SV.v ++ [s.v]))
    (hm : Mod (fp G) w w1) (hA : G' = G ∨ ∃ g, G' = some ⟨g, 0, none⟩ ∧ w.heap.size ≤ g) : LLOwn w1 G' (m + 1) c' (ss ++ [s]) (lls ++ [l]) := by
  have key : ∀ (s : SV) (l : List Lg), RdL w s.a s.n l → s.n ≤ 8 → (0 < s.n → ∀ k, fp s.a k → ¬ fp G k) → RdL w1 s.a s.n l ∧ s.n ≤ 8 ∧ (0 < s.n → ∀ k, fp s.a k → ¬ fp G' k) := by
    intro s l ht h8 hG
    refine ⟨ht.mod' hm fun h0 k hk hf => hG h0 k hk hf, h8, fun h0 k hk => ?_⟩
    have q1 := rdl_lt ht h0 k hk
    rcases hA with rfl | ⟨g, rfl, hg⟩
    · exact hG h0 k hk
    · rintro ⟨a, ha, rfl⟩
      cases ha
      simp only at q1
      omega
  refine ⟨by simpa using hown, by simp [h.2.1], fun i s' l' hs hl => ?_⟩
  by_cases hi : i < ss.length
  · rw [List.getElem?_append_left hi] at hs
    rw [List.getElem?_append_left (by rw [← h.2.1]; exact hi)] at hl
    obtain ⟨a1, a2, a3⟩ := h.2.2 i s' l' hs hl
    exact key _ _ a1 a2 a3
  · rw [List.getElem?_append_right (by omega)] at hs
    rw [List.getElem?_append_right (by rw [← h.2.1]; omega), ← h.2.1] at hl
    have e : i - ss.length = 0 := by
      rcases Nat.lt_or_ge (i - ss.length) 1 with h5 | h5
      · omega
      · rw [List.getElem?_eq_none (by simpa using h5)] at hs; cases hs
    rw [e] at hs hl
    simp at hs hl
    subst hs hl
    exact key _ _ h1 h2 h3
end
theorem LegsAt.rot {w : World} {G A : Option Addr} {m k : Nat} {ss : List SV} {lls : List (List Lg)} (h : LegsAt w G m ss lls) (hr : Rd w 1 A m ((ss.drop k ++ ss.take k).map SV.v)) : LegsAt w A m (ss.drop k ++ ss.take k) (lls.drop k ++ lls.take k) := by
  have hl := h.2.1
  refine ⟨hr, by simp [hl], fun i s l hs hl2 => ?_⟩
  by_cases hi : i < (ss.drop k).length
  · rw [List.getElem?_append_left hi, List.getElem?_drop] at hs
    rw [List.getElem?_append_left (by rw [List.length_drop] at hi ⊢; omega), List.getElem?_drop] at hl2
    exact h.2.2 _ s l hs hl2
  · have e : (ss.drop k).length = (lls.drop k).length := by rw [List.length_drop, List.length_drop, hl]
    rw [List.getElem?_append_right (by omega)] at hs
    rw [List.getElem?_append_right (by omega), ← e] at hl2
    rw [List.getElem?_take] at hs hl2
    split at hs
    · rename_i h1
      rw [if_pos h1] at hl2
      exact h.2.2 _ s l hs hl2
    · cases hs
theorem LLs.ok {w : World} {A : Option Addr} {n : Nat} {ss : List SV} {lls : List (List Lg)} (h : LLs w A n ss lls) : ∀ l ∈ lls, ∀ x ∈ l, LgOk x := by
  intro l hl
  obtain ⟨i, hi1, hi2⟩ := List.getElem_of_mem hl
  have hi3 : i < ss.length := by rw [h.2.1]; exact hi1
  exact (h.2.2 i ss[i] l (List.getElem?_eq_getElem hi3) (by rw [List.getElem?_eq_getElem hi1, hi2])).2.2
theorem rds_drop {w : World} {G : Option Addr} {m c k : Nat} {ss : List SV} (h : Rd w 1 G m (ss.map SV.v)) (hk : k ≤ m) (hc : m ≤ c) : Rd w 1 (if c = k then G else Option.map (fun x => x.add k) G) (m - k) ((ss.drop k).map SV.v) := by
  have := Rd.drop_ h hk hc
  simp only [Nat.mul_one] at this
  rw [List.map_drop]
  exact this
theorem rds_take {w : World} {G : Option Addr} {m k : Nat} {ss : List SV} (h : Rd w 1 G m (ss.map SV.v)) (hk : k ≤ m) : Rd w 1 G k ((ss.take k).map SV.v) := by
  have := Rd.take_ h hk
  rw [Nat.mul_one] at this
  rw [List.map_take]
  exact this
def zeroS : Value := .slice none 0 0
theorem slinfo : (Try.prog.info? 23).map (fun i => (i.zero, i.size, i.bytes)) = some (some zeroS, 1, 24) := by kernel_rfl
theorem svs_one (ss : List SV) : ∀ u ∈ ss.map SV.v, u.oneCell' = true := by
  intro u hu
  obtain ⟨s, _, rfl⟩ := List.mem_map.1 hu
  rfl
theorem appLL {w : World} {ops : Array Oper} {rest : List Oper} {o : Oper} {a : Act} {Q : Exit → Act → World → Prop} (hgd : o.guard = none) (s x : Operand)
    (ho : o.op = .call { callee := .builtin .append, args := #[s, x], argTypes := #[47, 47] })
    {A : Option Addr} {n c : Nat} {xs : List SV} (hs : a.eval s = .slice A n c) (hown : Ow w 23 1 A n c (xs.map SV.v))
    {S : Option Addr} {m d : Nat} {news : List SV} (hx : a.eval x = .slice S m d) (hr : Rd w 1 S m (news.map SV.v)) (hb : (n + m) * 24 ≤ 140737488355328)
    (h : ∀ A' c' w', Ow w' 23 1 A' (n + m) c' (xs.map SV.v ++ news.map SV.v) → Mod (fp A) w w' → (A' = A ∨ A' = some ⟨w.heap.size, 0, none⟩) → wpList Try.prog ops Q rest (a.put o.dst (.slice A' (n + m) c')) w') : wpList Try.prog ops Q (o :: rest) a w := by
  obtain ⟨i0, hi, hz0, hz1, hz2⟩ := info_parts slinfo
  refine wpList_append_ow hgd s x 47 ho 23 i0 _ 1 24 Try.underlying47 hi hz0 hz1 hz2 rfl (by omega) A n c (xs.map SV.v) hs hown S m d (news.map SV.v) hx hr (svs_one _) (by omega) (by omega) ?_
  intro A' c' w' h1
  exact h A' c' w' h1
theorem step_appLL {w : World} {ops : Array Oper} {o : Oper} {a : Act} {K : Act → World → Prop} {Q : Exit → Act → World → Prop} {E : Prop} (hgd : o.guard = none) (s x : Operand)
    (ho : o.op = .call { callee := .builtin .append, args := #[s, x], argTypes := #[47, 47] })
    {A : Option Addr} {n c : Nat} {xs : List SV} (hs : a.eval s = .slice A n c) (hown : Ow w 23 1 A n c (xs.map SV.v))
    {S : Option Addr} {m d : Nat} {news : List SV} (hx : a.eval x = .slice S m d) (hr : Rd w 1 S m (news.map SV.v)) (hb : (n + m) * 24 ≤ 140737488355328)
    (h : ∀ A' c' w', Ow w' 23 1 A' (n + m) c' (xs.map SV.v ++ news.map SV.v) → Mod (fp A) w w' → (A' = A ∨ A' = some ⟨w.heap.size, 0, none⟩) → K (a.put o.dst (.slice A' (n + m) c')) w') :
    if Region.wanted o (yielded ops a.tmps) = true then Oper.wp Try.prog o a w K Q else E := by
  obtain ⟨i0, hi, hz0, hz1, hz2⟩ := info_parts slinfo
  refine step_append_ow hgd s x 47 ho 23 i0 _ 1 24 Try.underlying47 hi hz0 hz1 hz2 rfl (by omega) A n c (xs.map SV.v) hs hown S m d (news.map SV.v) hx hr (svs_one _) (by omega) (by omega) ?_
  intro A' c' w' h1
  exact h A' c' w' h1
theorem rds_one (w : World) (g : Nat) (hg : g = w.heap.size) (e : TypeId) (s : SV) : Rd (w.alloc (.cells #[.slice s.a s.n s.c] e)) 1 (some ⟨g, 0, none⟩) 1 ([s].map SV.v) := by
  subst hg
  exact rdn w e 1 1 w.heap.size #[.slice s.a s.n s.c] (0, 0) rfl rfl
theorem rds_two (w : World) (g : Nat) (hg : g = w.heap.size) (e : TypeId) (A B : Option Addr) (n m c d : Nat) : Rd (w.alloc (.cells #[.slice A n c, .slice B m d] e)) 1 (some ⟨g, 0, none⟩) 2 [.slice A n c, .slice B m d] := by
  subst hg
  exact rdn w e 1 2 w.heap.size #[.slice A n c, .slice B m d] (0, 0) rfl rfl
end Go.Proofs.Ytaohgefpnndjcaa
/-
  append as a step of the walk behind a guard that lets it run. No condition.
-/
namespace Go.Proofs.Ytaohgefpnndjcaa
set_option linter.unusedVariables false
open Go.RowKit
theorem wpList_append_owg {P : Program} {w : World} {ops : Array Oper} {rest : List Oper} {o : Oper} {a : Act} {Q : Exit → Act → World → Prop} (hw : Region.wanted o (yielded ops a.tmps) = true) (s x : Operand) (t : TypeId)
    (ho : o.op = .call { callee := .builtin .append, args := #[s, x], argTypes := #[t, t] })
    (e : TypeId) (i : TypeInfo) (z : Value) (size bytes : Nat) (ht : P.underlying t = some (.slice e)) (hi : P.info? e = some i) (hz : i.zero = some z)
    (hsize : i.size = size) (hby : i.bytes = bytes) (hzs : z.cells.size = size) (hsz : 0 < size)
    (A : Option Addr) (n c : Nat) (xs : List Value) (hs : a.eval s = .slice A n c) (hown : Ow w e size A n c xs)
    (S : Option Addr) (m d : Nat) (news : List Value) (hx : a.eval x = .slice S m d) (hr : Rd w size S m news) (h1 : ∀ u ∈ news, u.oneCell' = true)
    (hbytes : (n + m) * bytes ≤ 140737488355328) (h63 : n + m ≤ 9223372036854775807)
    (h : ∀ A' c' w', Ow w' e size A' (n + m) c' (xs ++ news) → Mod (fp A) w w' → (A' = A ∨ A' = some ⟨w.heap.size, 0, none⟩) → wpList P ops Q rest (a.put o.dst (.slice A' (n + m) c')) w') : wpList P ops Q (o :: rest) a w :=
  wpList_step fun _ hK => by
    rw [if_pos hw]
    exact wp_append_ow w s x t ho e i z size bytes ht hi hz hsize hby hzs hsz A n c xs hs hown S m d news hx hr h1 hbytes h63 fun A' c' w' h2 h3 h4 => hK _ _ (h A' c' w' h2 h3 h4)
theorem Mod.then_own {w w1 w2 : World} {A : Option Addr} (hm : Mod (fp none) w w1) (hA : A = none ∨ A = some ⟨w.heap.size, 0, none⟩) (hm2 : Mod (fp A) w1 w2) : Mod none_ w w2 := by
  refine (hm.mono (G := none_) ?_).then hm2 ?_
  · rintro i ⟨a, ha, _⟩; cases ha
  · rintro i hi ⟨a, ha, rfl⟩
    rcases hA with rfl | rfl
    · cases ha
    · cases ha; simp only at hi; omega
theorem Mod.nil_own {w w1 : World} (hm : Mod (fp none) w w1) : Mod none_ w w1 := hm.mono (G := none_) (by rintro i ⟨a, ha, _⟩; cases ha)
end Go.Proofs.Ytaohgefpnndjcaa
/-
  VoucherSums: the walk.
-/
namespace Go.Proofs.Ytaohgefpnndjcaa
set_option linter.unusedVariables false
open Go.RowKit
def ownL (lls : List (List Lg)) : List (List Lg) := (lls.take 10).map fun l => (l.take 8).map cutL
theorem ownL_len (lls : List (List Lg)) : (ownL lls).length = min lls.length 10 := by unfold ownL; rw [List.length_map, List.length_take]; omega
theorem ownL_get {lls : List (List Lg)} {i : Nat} {l : List Lg} (h : lls[i]? = some l) (hi : i < 10) : (ownL lls).take (i + 1) = (ownL lls).take i ++ [(l.take 8).map cutL] := by
  have hil : i < lls.length := by
    rcases Nat.lt_or_ge i lls.length with h1 | h1
    · exact h1
    · rw [List.getElem?_eq_none h1] at h; cases h
  have hi2 : i < (ownL lls).length := by rw [ownL_len]; omega
  rw [List.take_succ_eq_append_getElem hi2]
  congr 1
  unfold ownL
  rw [List.getElem?_eq_getElem hil] at h
  injection h with h
  simp [h]
theorem own_small (lls : List (List Lg)) : ∀ l ∈ (ownL lls).flatten, SmallL l := by
  intro l hl
  obtain ⟨m, hm, hl⟩ := List.mem_flatten.1 hl
  unfold ownL at hm
  obtain ⟨q, _, rfl⟩ := List.mem_map.1 hm
  obtain ⟨x, _, rfl⟩ := List.mem_map.1 hl
  exact cut_small x
theorem own_ok {lls : List (List Lg)} (h : ∀ l ∈ lls, ∀ x ∈ l, LgOk x) : ∀ l ∈ (ownL lls).flatten, LgOk l := by
  intro l hl
  have hs := own_small lls l hl
  obtain ⟨m, hm, hl⟩ := List.mem_flatten.1 hl
  unfold ownL at hm
  obtain ⟨q, hq, rfl⟩ := List.mem_map.1 hm
  obtain ⟨x, hx, rfl⟩ := List.mem_map.1 hl
  refine ⟨(h q (List.mem_of_mem_take hq) x (List.mem_of_mem_take hx)).1, ?_⟩
  unfold SmallL at hs
  unfold I64
  omega
/-- Net of small legs -/
theorem netS_ok (w : World) (G : Option Addr) (m d : Nat) (ss : List SV) (lls : List (List Lg)) (h : LegsAt w G m ss lls) (hm1 : m ≤ 10) (hz : ∀ l ∈ lls.flatten, LgOk l) (hs : ∀ l ∈ lls.flatten, SmallL l) (hlen : lls.flatten.length ≤ 80) :
    Calls Try.prog 20 #[.slice G m d] w fun e w' => ∃ N : List (List UInt8), N.Pairwise (fun a b => bytesBefore a b = true) ∧ (∀ s, s ∈ N ↔ ∃ l ∈ lls.flatten, l.n = s) ∧ Mod none_ w w' ∧ ∃ A c, e = .returned (.tuple #[.slice A (outL lls.flatten N).length c, .int .i64 0]) ∧ OwL w' A (outL lls.flatten N).length c (outL lls.flatten N) ∧ Fresh w A := by
  refine (net_ok w G m d ss lls h (by omega) hz (by omega)).mono ?_
  rintro e w' ⟨N, h1, h2, h3, ⟨_, A, c, rfl, h5, h6⟩ | ⟨⟨s, _, hs2⟩, _⟩⟩
  · exact ⟨N, h1, h2, h3, A, c, rfl, h5, h6⟩
  · rw [small_sums hs (by omega) s] at hs2; cases hs2
theorem out_len {ls : List Lg} {N : List (List UInt8)} : (outL ls N).length ≤ N.length := by
  unfold outL; rw [List.length_map]; exact List.length_filter_le _ _
set_option maxRecDepth 100000 in
set_option maxHeartbeats 4000000 in
theorem voucherSums_walk (w : World) (A : Option Addr) (n c : Nat) (ss : List SV) (lls : List (List Lg)) (hA : LLs w A n ss lls) (at_ : Int) :
    Calls Try.prog 6 #[.slice A n c, .int .i64 at_] w fun e w' => e = .returned (.bool true) ∧ Below w.heap.size w w' := by
  have k0 := Lib.hid (lives_ok w)
  have hll := hA.len
  have hol := ownL_len lls
  rw [hll] at hol
  have hsm := own_small lls
  have hok := own_ok hA.ok
  replace hA := Lib.hid hA
  replace hll := Lib.hid hll
  replace hsm := Lib.hid hsm
  replace hok := Lib.hid hok
  go_enter Try.func6, Try.ntmps6
  go_wp2_with fail
  refine k0.out.mono ?_
  rintro e w0 ⟨rfl, hm0⟩
  dsimp only
  have hs0 := hm0.size
  replace hm0 := Lib.hid hm0
  go_wp2_with fail
  go_loopw [5, 6] (fun v x wr => ∃ i : Nat, x = .int .i64 i ∧ i ≤ (ownL lls).length ∧ ∃ G d ts, v = .slice G i d ∧ LLOwn wr G i d ts ((ownL lls).take i) ∧ Fresh w G ∧ Mod none_ w wr) (fun _ x _ => 10 - (intOf x).toNat)
  case atStart => exact ⟨0, rfl, by omega, none, 0, [], rfl, LLOwn.nil _, (fun _ h => by cases h), hm0.out⟩
  case round =>
    obtain ⟨i, rfl, hi, G, d, ts, rfl, hown, hf, hm⟩ := hrel
    replace hown := Lib.hid hown
    replace hf := Lib.hid hf
    replace hm := Lib.hid hm
    go_upto_region 5 with fail
    go_cut [28] from 21 to 28 (fun v W => v = .bool (decide (i < (ownL lls).length)) ∧ W = wr)
    case first =>
      by_cases hlt : i < n
      · by_cases hlt2 : i < 10
        · have hd : decide (i < (ownL lls).length) = true := decide_eq_true (by omega)
          replace hd := Lib.hid hd
          go_wp2_with fail
          go_meet
          exact ⟨by rw [hd.out] <;> (congr 1; first | exact decide_eq_true (by omega) | exact decide_eq_false (by omega)), rfl⟩
        · have hd : decide (i < (ownL lls).length) = false := decide_eq_false (by omega)
          replace hd := Lib.hid hd
          go_wp2_with fail
          go_meet
          exact ⟨by rw [hd.out] <;> (congr 1; first | exact decide_eq_true (by omega) | exact decide_eq_false (by omega)), rfl⟩
      · have hd : decide (i < (ownL lls).length) = false := decide_eq_false (by omega)
        replace hd := Lib.hid hd
        go_wp2_with fail
        go_meet
        exact ⟨by rw [hd.out] <;> (congr 1; first | exact decide_eq_true (by omega) | exact decide_eq_false (by omega)), rfl⟩
    case rest =>
      obtain ⟨rfl, rfl⟩ := hcut
      by_cases hlt : i < (ownL lls).length
      ·--[[
        have hlt1 : i < n := by omega
        have hlt2 : i < 10 := by omega
        have hd : decide (i < (ownL lls).length) = true := decide_eq_true hlt
        rw [hd]
        clear hd
        obtain ⟨g, o, B, k, kc, l, rfl, y1, hjl, hB, hkc, hlok⟩ := LLs.get (hA.out.mod0 hm.out) hlt1
        have hgl := World.block_lt_of_cell? wc _ y1
        have hlen := hB.len
        have hnx := ownL_get hjl hlt2
        obtain ⟨ol, hole⟩ : ∃ ol, ol = (l.take 8).map cutL := ⟨_, rfl⟩
        obtain ⟨k8, hk8⟩ : ∃ k8, k8 = min k 8 := ⟨_, rfl⟩
        have holl : ol.length = k8 := by rw [hole, List.length_map, List.length_take, hlen]; omega
        have hol10 : (ownL lls).length ≤ 10 := by omega
        have hka : k8 ≤ k := by omega
        have hkb : k8 ≤ 8 := by omega
        rw [← hole] at hnx
        replace hjl := Lib.hid hjl
        replace hB := Lib.hid hB
        replace hlok := Lib.hid hlok
        replace hlen := Lib.hid hlen
        replace hnx := Lib.hid hnx
        replace hole := Lib.hid hole
        replace hk8 := Lib.hid hk8
        go_wp2_with fail
        go_loopw [7, 8] (fun v x wr2 => ∃ j : Nat, x = .int .i64 j ∧ j ≤ k8 ∧ ∃ A' c', v = .slice A' j c' ∧ OwL wr2 A' j c' (ol.take j) ∧ Fresh wc A' ∧ Mod none_ wc wr2) (fun _ x _ => 8 - (intOf x).toNat)
        case atStart => exact ⟨0, rfl, by omega, none, 0, rfl, Ow.nil _ _ _, (fun _ h => by cases h), Mod.refl _ _⟩
        case round =>
          obtain ⟨j, rfl, hj, A', c', rfl, ho2, hf2, hm2⟩ := hrel
          have q1 := hm2.cell_some y1 (fun h => h)
          replace ho2 := Lib.hid ho2
          replace hf2 := Lib.hid hf2
          replace hm2 := Lib.hid hm2
          go_upto_region 9 with fail
          go_cut [41] from 31 to 41 (fun v W => v = .bool (decide (j < k8)) ∧ W = wr)
          case first =>
            by_cases hlt : j < k
            · by_cases hlt2 : j < 8
              · have hd : decide (j < k8) = true := decide_eq_true (by have := hk8.out; omega)
                replace hd := Lib.hid hd
                go_wp2_with fail
                go_meet
                exact ⟨by rw [hd.out] <;> (congr 1; first | exact decide_eq_true (by omega) | exact decide_eq_false (by omega)), rfl⟩
              · have hd : decide (j < k8) = false := decide_eq_false (by have := hk8.out; omega)
                replace hd := Lib.hid hd
                go_wp2_with fail
                go_meet
                exact ⟨by rw [hd.out] <;> (congr 1; first | exact decide_eq_true (by omega) | exact decide_eq_false (by omega)), rfl⟩
            · have hd : decide (j < k8) = false := decide_eq_false (by have := hk8.out; omega)
              replace hd := Lib.hid hd
              go_wp2_with fail
              go_meet
              exact ⟨by rw [hd.out] <;> (congr 1; first | exact decide_eq_true (by omega) | exact decide_eq_false (by omega)), rfl⟩
          case rest =>
            obtain ⟨rfl, rfl⟩ := hcut
            by_cases hjk : j < k8
            · have hd : decide (j < k8) = true := decide_eq_true hjk
              rw [hd]
              clear hd
              obtain ⟨g2, o2, x, rfl, hmem, hxl, x1, x2⟩ := rdl_get (hB.out.mod0 hm2.out) (show j < k by omega)
              have hgl2 := World.block_lt_of_cell? wc _ x1
              have hjk2 : j < k := by omega
              have hjol : j < ol.length := by omega
              have hnj : ol.take (j + 1) = ol.take j ++ [cutL x] := by
                rw [List.take_succ_eq_append_getElem hjol]
                congr 1
                have hjl2 : j < l.length := by rw [hlen.out]; omega
                rw [List.getElem?_eq_getElem hjl2] at hxl
                injection hxl with hxl
                simp [hole.out, hxl]
              unfold cutL at hnj
              replace hmem := Lib.hid hmem
              replace hxl := Lib.hid hxl
              replace hnj := Lib.hid hnj
              go_wp2_with fail
              go_region_law ((refine step_appL (by rfl) (.tmp 44) (.tmp 63) (by rfl) (by rfl) (Ow.mod0 ho2.out (((Mod.refl none_ wc).alloc _).drew)) (by rfl) (rdl_one wc _ _ rfl ⟨x.n, x.x.tmod 1099511627776⟩) (by omega) ?_; intro A2 c2 w2 ho3 hm3 hA3; replace ho3 := Lib.hid ho3; replace hm3 := Lib.hid hm3; replace hA3 := Lib.hid hA3))
              all_goals
                go_wp2_with fail
                go_roundw
                case rel => exact ⟨j + 1, by go_num, by omega, A2, c2, rfl, by rw [hnj.out]; exact ho3.out, Fresh.app hf2.out ((hm2.out.alloc _).drew).size hA3.out, ((hm2.out.alloc _).drew).app hf2.out hm3.out⟩
                case measure => simp [intOf]; omega
            · have hd : decide (j < k8) = false := decide_eq_false hjk
              rw [hd]
              clear hd
              have hjk8 : j = k8 := by omega
              subst hjk8
              have hfull : ol.take j = ol := List.take_of_length_le (by omega)
              rw [hfull] at ho2
              go_wp2_with (at_builtin; go_loud (refine appLL rfl (.tmp 65) (.tmp 67) rfl rfl (hown.out.mod0 (hm2.out.alloc _)).1 rfl (rds_one wc _ rfl _ ⟨A', j, c'⟩) (by omega) ?_; intro G2 d2 w2 ho3 hm3 hA3; replace ho3 := Lib.hid ho3; replace hm3 := Lib.hid hm3; replace hA3 := Lib.hid hA3))
              go_roundw
              case rel => exact ⟨i + 1, by go_num, by omega, G2, d2, ts ++ [⟨A', j, c'⟩], rfl, by rw [hnx.out]; exact LLOwn.push (s := ⟨A', j, c'⟩) (hown.out.mod0 (hm2.out.alloc _)) (show RdL _ A' j ol from Ow.rd (Ow.mod0 ho2.out ((Mod.refl _ _).alloc _))) (by dsimp only; omega) (fun h0 k hk hg => by obtain ⟨a, ha, rfl⟩ := hk; have h1 := hf2.out a ha; have h2 := Ow.lt hown.out.1 _ hg; omega) ho3.out hm3.out (by rcases hA3.out with h | h; exact .inl h; exact .inr ⟨_, h, Nat.le_refl _⟩), Fresh.app hf.out ((hm.out.trans hm2.out).alloc _).size hA3.out, ((hm.out.trans hm2.out).alloc _).app hf.out hm3.out⟩
              case measure => simp [intOf]; omega
      --]]
      · have hin : i = (ownL lls).length := by omega
        have hd : decide (i < (ownL lls).length) = false := decide_eq_false hlt
        rw [hd]
        clear hd
        have hfull : (ownL lls).take i = ownL lls := List.take_of_length_le (by omega)
        rw [hfull] at hown
        have hi10 : i ≤ 10 := by omega
        clear hol hA hll
        generalize ownL lls = own at *
        obtain ⟨k, hk2, hke⟩ := umod at_ ((i : Int) + 1) (by omega) (by omega)
        replace hk2 : k ≤ i := by omega
        have hfl := hown.out.flat
        replace hke := Lib.hid hke
        replace hin := Lib.hid hin
        replace hfull := Lib.hid hfull
        go_upto_region 13 with fail
        go_cut [9] from 69 to 76 (fun v W => v = .int .i64 (k : Int) ∧ W = wc)
        case first =>
          go_wp2_with fail
          go_meet
          exact ⟨by rw [hke.out], rfl⟩
        case rest =>
          obtain ⟨rfl, rfl⟩ := hcut
          have kn := Lib.hid (fun W (h : LLOwn W G i d ts own) => netS_ok W G i d ts own h.at (by omega) hok.out hsm.out (by omega))
          have hpm := flat_rot own k
          have kn2 := Lib.hid (fun W A c (h : LegsAt W A i (ts.drop k ++ ts.take k) (own.drop k ++ own.take k)) => netS_ok W A i c _ _ h (by omega) (fun l h => hok.out l (hpm.mem_iff.1 h)) (fun l h => hsm.out l (hpm.mem_iff.1 h)) (by rw [hpm.length_eq]; omega))
          go_wp2_with fail
          refine (kn.out _ hown.out).mono ?_
          rintro e w1 ⟨N1, hN1, hM1, hm1, A1, c1, rfl, ho1, hf1⟩
          dsimp only
          have hown1 := Lib.hid (hown.out.mod0 hm1)
          have hmw1 := Lib.hid (hm.out.trans hm1)
          have hs1 := hm1.size
          clear hm1
          replace ho1 := Lib.hid ho1
          replace hf1 := Lib.hid hf1
          replace hpm := Lib.hid hpm
          have u0 : (0 : Int) ≤ (k : Int) := by omega
          have u1 : (k : Int) ≤ (i : Int) := by omega
          have hid := hown.out.1.2.1
          have u2 : (i : Int) ≤ (d : Int) := by omega
          have u3 : (k : Int) ≤ (d : Int) := by omega
          have hd1 := Lib.hid (fun W (h : Mod none_ w1 W) => rds_drop (Ow.rd (hown1.out.mod0 h).1) hk2 hid)
          have hd2 := Lib.hid (fun W (h : Mod none_ w1 W) => rds_take (Ow.rd (hown1.out.mod0 h).1) hk2)
          have hd3 := Lib.hid (fun W A (h : Mod none_ w1 W) (hr : Rd W 1 A i ((ts.drop k ++ ts.take k).map SV.v)) => LegsAt.rot (hown1.out.mod0 h).at hr)
          go_upto_region 15 with fail
          go_cut [12, 13] from 83 to 93 (fun v u W => ∃ N2 A2 c2, N2.Pairwise (fun a b => bytesBefore a b = true) ∧ (∀ s, s ∈ N2 ↔ ∃ l ∈ (own.drop k ++ own.take k).flatten, l.n = s) ∧ v = .slice A2 (outL (own.drop k ++ own.take k).flatten N2).length c2 ∧ u = .int .i64 0 ∧ OwL W A2 (outL (own.drop k ++ own.take k).flatten N2).length c2 (outL (own.drop k ++ own.take k).flatten N2) ∧ Mod none_ w1 W)
          case first =>
            go_region_law ((first
              | (refine step_appLL (by rfl) (.const (.slice none 0 0)) (.tmp 85) (by rfl) (by rfl) (xs := []) (Ow.nil _ _ _) (by rfl) (news := ts.drop k) (hd1.out _ (Mod.refl _ _).drew) (by omega) ?_; rw [Nat.zero_add]; intro A3 c3 w3 ho3 hm3 hA3; replace ho3 := Lib.hid ho3; replace hm3 := Lib.hid hm3; replace hA3 := Lib.hid hA3)
              | (refine step_appLL (by rfl) (.tmp 86) (.tmp 89) (by rfl) (by rfl) (xs := ts.drop k) (by simpa using ho3.out) (by rfl) (news := ts.take k) (hd2.out _ ((Mod.refl _ _).drew.trans (Mod.nil_own hm3.out))) (by omega) ?_; rw [show i - k + k = i by omega]; intro A4 c4 w4 ho4 hm4 hA4; have hr4 := Lib.hid (show Rd w4 1 A4 i ((ts.drop k ++ ts.take k).map SV.v) from by have := Ow.rd ho4; rw [List.map_append]; exact this); have hmm4 := Lib.hid (((Mod.refl none_ w1).drew).trans (Mod.then_own hm3.out hA3.out hm4)); replace hm4 := Lib.hid hm4; replace hA4 := Lib.hid hA4)
              | (go_simp; go_at_call 20; (with_reducible refine (kn2.out _ _ _ (hd3.out _ _ hmm4.out hr4.out)).mono ?_); rintro e w5 ⟨N2, hN2, hM2, hm5, A5, c5, rfl, ho5, hf5⟩; dsimp only; replace ho5 := Lib.hid ho5; replace hm5 := Lib.hid hm5; replace hM2 := Lib.hid hM2; replace hN2 := Lib.hid hN2)))
            all_goals
              generalize (if d = k then G else Option.map (fun x => x.add k) G) = LL
              go_wp2_with fail
              go_meet
              exact ⟨N2, A5, c5, hN2.out, hM2.out, by rw [List.flatten_append], rfl, ho5.out, hmm4.out.trans hm5.out⟩
          case rest =>
            obtain ⟨N2, A2, c2, hN2, hM2, rfl, rfl, ho2, hm2⟩ := hcut
            obtain ⟨hsame, hsum⟩ := net_same hpm.out.symm hN1 hN2 hM1 hM2
            rw [← hsame] at ho2 ⊢
            have hob := out_few hN1 hM1
            have hnz := out_nz (ls := own.flatten) (N := N1)
            have hsrt := out_names (ls := own.flatten) hN1
            have hws : ws (outL own.flatten N1) = ws own.flatten := by unfold ws; rw [hsum]
            generalize outL own.flatten N1 = out at *
            have hA2 := Lib.hid (show RdL wc A1 out.length out from Ow.rd (Ow.mod0 ho1.out hm2))
            have hB2 := Lib.hid (show RdL wc A2 out.length out from Ow.rd ho2)
            have hO2 := Lib.hid ((hown1.out.mod0 hm2).at)
            have hmw2 := Lib.hid (hmw1.out.trans hm2)
            have hob2 : out.length ≤ 80 := by omega
            have hownl : own.length = i := hown.out.len
            clear hm2 ho2 hM2 hN2 hd1 hd2 hd3 kn kn2 hown1 hown ho1 hf1 hN1 hM1 hsame hsum u0 u1 u2 u3 hid hf
            replace hnz := Lib.hid hnz
            replace hsrt := Lib.hid hsrt
            replace hws := Lib.hid hws
            go_wp2_with fail
            go_loopw [15, 16] (fun v x wr => ∃ q : Nat, x = .int .i64 q ∧ q ≤ i ∧ v = .int .i64 (ws (own.take q).flatten) ∧ Mod none_ wc wr) (fun _ x _ => i - (intOf x).toNat)
            case atStart => exact ⟨0, rfl, by omega, by rw [List.take_zero, List.flatten_nil, ws_nil], Mod.refl _ _⟩
            case round =>
              obtain ⟨q, rfl, hq, rfl, hmq⟩ := hrel
              by_cases hqi : q < i
              · obtain ⟨g, o, B, k2, kc, l, rfl, y1, hjl, hB, hk3⟩ := (hO2.out.mod0 hmq).get hqi
                have hlen := hB.len
                have hq2 : q < own.length := by omega
                have hnq : (own.take (q + 1)).flatten = (own.take q).flatten ++ l := by
                  rw [List.getElem?_eq_getElem hq2] at hjl
                  injection hjl with hjl
                  rw [List.take_succ_eq_append_getElem hq2, hjl, List.flatten_append]; simp
                replace hmq := Lib.hid hmq
                replace hjl := Lib.hid hjl
                replace hB := Lib.hid hB
                replace hlen := Lib.hid hlen
                replace hnq := Lib.hid hnq
                go_wp2_with fail
                go_loopw [15, 17] (fun v x wr2 => ∃ j : Nat, x = .int .i64 j ∧ j ≤ k2 ∧ v = .int .i64 (ws ((own.take q).flatten ++ l.take j)) ∧ Mod none_ wr wr2) (fun _ x _ => k2 - (intOf x).toNat)
                case atStart => exact ⟨0, rfl, by omega, by rw [List.take_zero, List.append_nil], Mod.refl _ _⟩
                case round =>
                  obtain ⟨j, rfl, hj, rfl, hmj⟩ := hrel
                  have q1 := hmj.cell_some y1 (fun h => h)
                  by_cases hjk : j < k2
                  · obtain ⟨g2, o2, x, rfl, hmem, hxl, x1, x2⟩ := rdl_get (hB.out.mod0 hmj) hjk
                    have hsn := ws_snoc ((own.take q).flatten ++ l.take j) x
                    have htk : l.take (j + 1) = l.take j ++ [x] := by
                      have hjl2 : j < l.length := by rw [hlen.out]; omega
                      rw [List.getElem?_eq_getElem hjl2] at hxl
                      injection hxl with hxl
                      rw [List.take_succ_eq_append_getElem hjl2, hxl]
                    rw [List.append_assoc, ← htk] at hsn
                    generalize ws ((own.take q).flatten ++ l.take j) = vv at *
                    replace hmj := Lib.hid hmj
                    replace hmem := Lib.hid hmem
                    replace hxl := Lib.hid hxl
                    replace htk := Lib.hid htk
                    replace hsn := Lib.hid hsn
                    go_wp2_with fail
                    go_roundw
                    case rel => exact ⟨j + 1, by go_num, by omega, by rw [hsn.out], hmj.out⟩
                    case measure => simp [intOf]; omega
                  · have hfull : l.take j = l := List.take_of_length_le (by rw [hlen.out]; omega)
                    rw [hfull, ← hnq.out]
                    obtain ⟨vv, hvv⟩ : ∃ v, ws (own.take (q + 1)).flatten = v := ⟨_, rfl⟩
                    rw [hvv]
                    replace hmj := Lib.hid hmj
                    replace hfull := Lib.hid hfull
                    replace hvv := Lib.hid hvv
                    go_wp2_with fail
                    go_roundw
                    case rel => exact ⟨q + 1, by go_num, by omega, by rw [hvv.out], hmq.out.trans hmj.out⟩
                    case measure => simp [intOf]; omega
              · have hfull : own.take q = own := List.take_of_length_le (by omega)
                rw [hfull, ← hws.out]
                replace hmq := Lib.hid hmq
                replace hfull := Lib.hid hfull
                go_wp2_with fail
                go_loopw [14, 18] (fun v x wr => ∃ p : Nat, x = .int .i64 p ∧ p ≤ out.length ∧ v = .int .i64 (ws (out.take p)) ∧ Mod none_ wc wr) (fun _ x _ => out.length - (intOf x).toNat)
                case atStart => exact ⟨0, rfl, by omega, by rw [List.take_zero, ws_nil], hmq.out⟩
                case round =>
                  obtain ⟨p, rfl, hp, rfl, hmp⟩ := hrel
                  by_cases hpl : p < out.length
                  · obtain ⟨g, o, x, rfl, hmem, hxl, x1, x2⟩ := rdl_get (hA2.out.mod0 hmp) hpl
                    have hsn := ws_snoc (out.take p) x
                    have hgx : out[p] = x := by rw [List.getElem?_eq_getElem hpl] at hxl; injection hxl
                    rw [← hgx, ← List.take_succ_eq_append_getElem hpl, hgx] at hsn
                    have hx0 : (x.x == 0) = false := by simpa using hnz.out x hmem
                    generalize ws (out.take p) = vv at *
                    by_cases hp0 : p = 0
                    · subst hp0
                      have hd : decide ((0 : Int) < ((0 : Nat) : Int)) = false := rfl
                      replace hmp := Lib.hid hmp
                      replace hmem := Lib.hid hmem
                      replace hxl := Lib.hid hxl
                      replace hsn := Lib.hid hsn
                      replace hgx := Lib.hid hgx
                      go_wp2_with fail
                      go_quiet (fail)
                      go_wp2_with fail
                      go_roundw
                      case rel => exact ⟨1, by go_num, by omega, by rw [hsn.out], hmp.out.drewN _⟩
                      case measure => simp [intOf]; omega
                    · obtain ⟨r, rfl⟩ : ∃ r, p = r + 1 := ⟨p - 1, by omega⟩
                      obtain ⟨g', o', y, e', hmemy, hyl, z1, z2⟩ := rdl_get (hA2.out.mod0 hmp) (show r < out.length by omega)
                      injection e' with e'
                      injection e' with e1 e2
                      subst e1 e2
                      have hbb : bytesBefore y.n x.n = true := by
                        have := (List.pairwise_iff_getElem.1 hsrt.out) r (r + 1) (by omega) hpl (by omega)
                        rw [hgx] at this
                        have hgy : out[r] = y := by rw [List.getElem?_eq_getElem (by omega)] at hyl; injection hyl
                        rw [hgy] at this
                        exact this
                      have hbl : (!Op.bytesLess y.n x.n) = false := by rw [less_before, hbb]; rfl
                      replace hmp := Lib.hid hmp
                      replace hmem := Lib.hid hmem
                      replace hxl := Lib.hid hxl
                      replace hsn := Lib.hid hsn
                      replace hgx := Lib.hid hgx
                      replace hmemy := Lib.hid hmemy
                      replace hyl := Lib.hid hyl
                      go_wp2_with fail
                      go_quiet (fail)
                      go_wp2_with fail
                      go_roundw
                      case rel => exact ⟨r + 1 + 1, by go_num, by omega, by rw [hsn.out], hmp.out.drewN _⟩
                      case measure => simp [intOf]; omega
                  · have hfull : out.take p = out := List.take_of_length_le (by omega)
                    rw [hfull]
                    have ksl := Lib.hid (samel_ok wr A1 A2 out.length out.length c1 c2 out out (hA2.out.mod0 hmp) (hB2.out.mod0 hmp) (by omega) (by omega))
                    rw [show sameLg out out = true from decide_eq_true rfl] at ksl
                    generalize ws out = vv at *
                    replace hmp := Lib.hid hmp
                    replace hfull := Lib.hid hfull
                    go_wp2_with fail
                    refine ksl.out.mono ?_
                    rintro e w10 ⟨rfl, kk, rfl⟩
                    dsimp only
                    go_wp2_with fail
                    go_ret
                    exact ⟨rfl, ((hmw2.out.trans hmp.out).drewN kk).below0⟩
end Go.Proofs.Ytaohgefpnndjcaa
