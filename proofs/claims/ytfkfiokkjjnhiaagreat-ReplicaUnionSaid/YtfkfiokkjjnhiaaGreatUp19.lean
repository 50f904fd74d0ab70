import Derived.Test.YtfkfiokkjjnhiaaGreatUp18
import Derived.Test.YtfkfiokkjjnhiaaGreatUp1
import Derived.Test.YtfkfiokkjjnhiaaGreatUp4
import Derived.Test.YtfkfiokkjjnhiaaGreatUp2
import Derived.RegionTactic
import Derived.BigRegion
import Derived.Deep.QuietTactic
import Derived.BigQuiet
import Derived.Deep.RegionLaw
set_option linter.unusedVariables false
set_option linter.unusedSimpArgs false
set_option maxHeartbeats 16000000
namespace Go.Proofs.YtfkfiokkjjnhiaaGreat.Kn
def TC (g : List (List Int)) (i k : Nat) : Prop := ∃ c, Edge g i c ∧ RT g c k
theorem TC.one {g : List (List Int)} {i k : Nat} (h : Edge g i k) : TC g i k := ⟨k, h, .refl k⟩
theorem TC.rt {g : List (List Int)} {i k : Nat} (h : TC g i k) : RT g i k := by
 obtain ⟨c, h1, h2⟩ := h
 exact (RT.one h1).trans h2
theorem rt_tc {g : List (List Int)} {a b c : Nat} (h : RT g a b) (e : Edge g b c) : TC g a c := by
 induction h generalizing c with
 | refl => exact .one e
 | step h1 e1 ih =>
  obtain ⟨d, h2, h3⟩ := ih e1
  exact ⟨d, h2, .step h3 e⟩
theorem TC.trans {g : List (List Int)} {a b c : Nat} (h : TC g a b) (k : TC g b c) : TC g a c := by
 obtain ⟨x, h1, h2⟩ := h
 obtain ⟨y, k1, k2⟩ := k
 exact ⟨x, h1, (RT.step h2 k1).trans k2⟩
theorem Edge.lt {g : List (List Int)} {i k : Nat} (h : Edge g i k) : i < g.length ∧ k < g.length := by
 obtain ⟨l, h1, _, h3⟩ := h
 refine ⟨?_, h3⟩
 rcases Nat.lt_or_ge i g.length with h | h
 ·exact h
 ·rw [List.getElem?_eq_none h] at h1; cases h1
theorem RT.cases_tc {g : List (List Int)} {a b : Nat} (h : RT g a b) : a = b ∨ TC g a b := by
 cases h with
 | refl => exact .inl rfl
 | step h e => exact .inr (rt_tc h e)
theorem TC.lt {g : List (List Int)} {a b : Nat} (h : TC g a b) : b < g.length := by
 obtain ⟨c, h1, h2⟩ := h
 rcases h2.cases_tc with rfl | ⟨d, h3, h4⟩
 ·exact h1.lt.2
 ·cases h2 with
  | refl => exact h1.lt.2
  | step _ e => exact e.lt.2
structure Dfs (g : List (List Int)) (f : Nat) (s : Nat → Bool) (T : List Nat) (i : Option Nat) : Prop where
 sn : ∀ k, s k = true → k < g.length ∧ TC g f k
 td : ∀ v ∈ T, v < g.length ∧ RT g f v
 cl : ∀ v, (v = f ∨ s v = true) → v ∉ T → i = some v ∨ ∀ k, Edge g v k → s k = true
theorem dfs_start {g : List (List Int)} {f : Nat} (hf : f < g.length) : Dfs g f (fun _ => false) [f] none := by
 refine ⟨fun k h => (by cases h), fun v hv => ?_, fun v hv hT => ?_⟩
 ·simp at hv; subst hv; exact ⟨hf, .refl _⟩
 ·rcases hv with rfl | h
  ·exact absurd (by simp) hT
  ·cases h
theorem dfs_pop {g : List (List Int)} {f i : Nat} {s : Nat → Bool} {T : List Nat} (h : Dfs g f s (T ++ [i]) none) : Dfs g f s T (some i) ∧ i < g.length ∧ RT g f i := by
 refine ⟨⟨h.sn, fun v hv => h.td v (List.mem_append_left _ hv), fun v hv hT => ?_⟩, h.td i (by simp)⟩
 by_cases e : v = i
 ·exact .inl (by rw [e])
 ·rcases h.cl v hv (fun hh => by
   rcases List.mem_append.1 hh with hh | hh
   ·exact hT hh
   ·simp at hh; exact e hh) with h1 | h1
  ·cases h1
  ·exact .inr h1
theorem dfs_push {g : List (List Int)} {f i k : Nat} {s : Nat → Bool} {T : List Nat} (h : Dfs g f s T (some i)) (hi : RT g f i) (he : Edge g i k) : Dfs g f (upd s k true) (T ++ [k]) (some i) := by
 have hk := he.lt.2
 refine ⟨fun x hx => ?_, fun v hv => ?_, fun v hv hT => ?_⟩
 ·by_cases e : x = k
  ·subst e; exact ⟨hk, rt_tc hi he⟩
  ·rw [upd_ne _ _ e] at hx; exact h.sn x hx
 ·rcases List.mem_append.1 hv with hv | hv
  ·exact h.td v hv
  ·simp at hv; subst hv; exact ⟨hk, (rt_tc hi he).rt⟩
 ·have e : v ≠ k := fun e => hT (by rw [e]; simp)
  rw [upd_ne _ _ e] at hv
  rcases h.cl v hv (fun hh => hT (List.mem_append_left _ hh)) with h1 | h1
  ·exact .inl h1
  ·exact .inr fun x hx => by
    by_cases e2 : x = k
    ·subst e2; exact upd_self _ _ _
    ·rw [upd_ne _ _ e2]; exact h1 x hx
theorem dfs_done {g : List (List Int)} {f i : Nat} {s : Nat → Bool} {T : List Nat} (h : Dfs g f s T (some i)) (hall : ∀ k, Edge g i k → s k = true) : Dfs g f s T none := by
 refine ⟨h.sn, h.td, fun v hv hT => ?_⟩
 rcases h.cl v hv hT with h1 | h1
 ·injection h1 with h1; subst h1; exact .inr hall
 ·exact .inr h1
theorem dfs_end {g : List (List Int)} {f : Nat} {s : Nat → Bool} (h : Dfs g f s [] none) : ∀ k, s k = true ↔ TC g f k := by
 intro k
 refine ⟨fun hk => (h.sn k hk).2, fun hk => ?_⟩
 have hc : ∀ v, (v = f ∨ s v = true) → ∀ k, Edge g v k → s k = true := fun v hv => by
  rcases h.cl v hv (by simp) with h1 | h1
  ·cases h1
  ·exact h1
 obtain ⟨c, h1, h2⟩ := hk
 have := hc f (.inl rfl) c h1
 clear h1
 induction h2 with
 | refl => exact this
 | step _ e ih => exact hc _ (.inr ih) _ e
inductive Via (g : List (List Int)) (m : Nat) : Nat → Nat → Prop
 | one {a b : Nat} : Edge g a b → Via g m a b
 | thr {a b c : Nat} : Via g m a b → b < m → Via g m b c → Via g m a c
theorem Via.tc {g : List (List Int)} {m a b : Nat} (h : Via g m a b) : TC g a b := by
 induction h with
 | one e => exact .one e
 | thr _ _ _ h1 h2 => exact h1.trans h2
theorem Via.up {g : List (List Int)} {m a b : Nat} (h : Via g m a b) : Via g (m + 1) a b := by
 induction h with
 | one e => exact .one e
 | thr _ hb _ h1 h2 => exact .thr h1 (by omega) h2
structure Lab (g : List (List Int)) (lab : Nat → Int) (m : Nat) : Prop where
 lt : ∀ v, v < g.length → 0 ≤ lab v ∧ lab v < (m : Int)
 dn : ∀ v k, Edge g v k → lab k ≤ lab v
 eq : ∀ u v, u < g.length → v < g.length → lab u = lab v → RT g u v
 all : ∀ a : Nat, a < m → ∃ v, v < g.length ∧ lab v = (a : Int)
theorem Lab.rt {g : List (List Int)} {lab : Nat → Int} {m : Nat} (h : Lab g lab m) {u v : Nat} (hr : RT g u v) : lab v ≤ lab u := by
 induction hr with
 | refl => exact Int.le_refl _
 | step _ e ih => have := h.dn _ _ e; omega
theorem Lab.iff {g : List (List Int)} {lab : Nat → Int} {m : Nat} (h : Lab g lab m) {u v : Nat} (hu : u < g.length) (hv : v < g.length) : lab u = lab v ↔ RT g u v ∧ RT g v u :=
 ⟨fun e => ⟨h.eq u v hu hv e, h.eq v u hv hu e.symm⟩, fun e => by have := h.rt e.1; have := h.rt e.2; omega⟩
theorem core_lab {g : List (List Int)} {S : KS} (h : Core g S []) (hall : ∀ v, v < g.length → S.num v ≠ -1) : Lab g S.knot S.id := by
 have hs : S.stk = [] := by
  cases hs : S.stk with
  | nil => rfl
  | cons a l =>
   obtain ⟨p, hp, _⟩ := h.bot a (by rw [hs]; simp)
   cases hp
 have hd : ∀ v, v < g.length → Done g S v := fun v hv => ⟨hv, hall v hv, by rw [hs]; simp⟩
 refine ⟨fun v hv => h.lab v (hd v hv), fun v k e => (h.dcl v k (hd v e.lt.1) e).2, fun u v hu hv e => h.snd u v (hd u hu) (hd v hv) e, fun a ha => ?_⟩
 obtain ⟨v, hv, e⟩ := h.srj a ha
 exact ⟨v, hv.1, e⟩
open Classical in
noncomputable def knotOf (g : List (List Int)) (i : Nat) : List Nat := (List.range g.length).filter fun v => decide (RT g i v ∧ RT g v i)
open Classical in
theorem mem_knot {g : List (List Int)} {i v : Nat} : v ∈ knotOf g i ↔ v < g.length ∧ RT g i v ∧ RT g v i := by
 unfold knotOf
 rw [List.mem_filter, List.mem_range, decide_eq_true_iff]
def Free (g : List (List Int)) (D : Nat → Prop) (i : Nat) : Prop := i < g.length ∧ ¬ D i ∧ ∀ k, RT g i k → D k ∨ RT g k i
inductive KSeq (g : List (List Int)) : (Nat → Prop) → List (List Nat) → Prop
 | nil {D : Nat → Prop} : (∀ v, v < g.length → D v) → KSeq g D []
 | cons {D : Nat → Prop} {i : Nat} {out : List (List Nat)} : Free g D i → (∀ j, Free g D j → i ≤ j) → KSeq g (fun v => D v ∨ v ∈ knotOf g i) out → KSeq g D (knotOf g i :: out)
section
variable {g : List (List Int)}
inductive KPre (g : List (List Int)) : (Nat → Prop) → List (List Nat) → (Nat → Prop) → Prop
 | nil {D : Nat → Prop} : KPre g D [] D
 | snoc {D E : Nat → Prop} {i : Nat} {out : List (List Nat)} : KPre g D out E → Free g E i → (∀ j, Free g E j → i ≤ j) → KPre g D (out ++ [knotOf g i]) (fun v => E v ∨ v ∈ knotOf g i)
theorem kpre_seq {D E : Nat → Prop} {out : List (List Nat)} (h : KPre g D out E) {rest : List (List Nat)} (hr : KSeq g E rest) : KSeq g D (out ++ rest) := by
 induction h generalizing rest with
 | nil => exact hr
 | snoc _ f m ih =>
  rw [List.append_assoc]
  exact ih (.cons f m hr)
end
def memL (g : List (List Int)) (lab : Nat → Int) (a : Nat) : List Nat := (List.range g.length).filter fun v => decide (lab v = (a : Int))
theorem mem_memL {g : List (List Int)} {lab : Nat → Int} {a v : Nat} : v ∈ memL g lab a ↔ v < g.length ∧ lab v = (a : Int) := by
 unfold memL
 rw [List.mem_filter, List.mem_range, decide_eq_true_iff]
open Classical in
theorem memL_knot {g : List (List Int)} {lab : Nat → Int} {m a i : Nat} (h : Lab g lab m) (hi : i ∈ memL g lab a) : memL g lab a = knotOf g i := by
 obtain ⟨hi1, hi2⟩ := mem_memL.1 hi
 unfold memL knotOf
 refine List.filter_congr fun v hv => ?_
 rw [List.mem_range] at hv
 rw [decide_eq_decide, ← hi2]
 have := h.iff hi1 hv
 exact ⟨fun e => this.1 e.symm, fun e => (this.2 e).symm⟩
def Cand (g : List (List Int)) (lab : Nat → Int) (m : Nat) (R : List Nat) (a : Nat) : Prop := a < m ∧ a ∉ R ∧ ∀ v k, lab v = (a : Int) → Edge g v k → lab k = (a : Int) ∨ ∃ b ∈ R, lab k = (b : Int)
def ClosedR (g : List (List Int)) (lab : Nat → Int) (R : List Nat) : Prop := ∀ v k, (∃ b ∈ R, lab v = (b : Int)) → Edge g v k → ∃ b ∈ R, lab k = (b : Int)
theorem cand_free {g : List (List Int)} {lab : Nat → Int} {m : Nat} (h : Lab g lab m) {R : List Nat} (hc : ClosedR g lab R) {a i : Nat} (ha : Cand g lab m R a) (hi : i ∈ memL g lab a) : Free g (fun v => ∃ b ∈ R, lab v = (b : Int)) i := by
 obtain ⟨hi1, hi2⟩ := mem_memL.1 hi
 refine ⟨hi1, ?_, fun k hk => ?_⟩
 ·rintro ⟨b, hb, e⟩
  rw [hi2] at e
  have : a = b := by omega
  exact ha.2.1 (this ▸ hb)
 ·have : lab k = (a : Int) ∨ ∃ b ∈ R, lab k = (b : Int) := by
   induction hk with
   | refl => exact .inl hi2
   | step _ e ih =>
    rcases ih with ih | ih
    ·exact ha.2.2 _ _ ih e
    ·exact .inr (hc _ _ ih e)
  rcases this with h1 | h1
  ·rcases hk.cases_tc with e | htc
   ·subst e; exact .inr (.refl _)
   ·exact .inr (h.eq k i htc.lt hi1 (by rw [h1, hi2]))
  ·exact .inl h1
theorem free_cand {g : List (List Int)} {lab : Nat → Int} {m : Nat} (h : Lab g lab m) {R : List Nat} {j : Nat} (hf : Free g (fun v => ∃ b ∈ R, lab v = (b : Int)) j) : ∃ a, Cand g lab m R a ∧ j ∈ memL g lab a := by
 obtain ⟨hj, hd, hr⟩ := hf
 have hl := h.lt j hj
 refine ⟨(lab j).toNat, ⟨by omega, fun hm => hd ⟨_, hm, by omega⟩, fun v k hv e => ?_⟩, mem_memL.2 ⟨hj, by omega⟩⟩
 have hvj : lab j = lab v := by omega
 have := h.eq j v hj e.lt.1 hvj
 rcases hr k (.step this e) with h1 | h1
 ·exact .inr h1
 ·have h2 := h.rt h1
  have h3 := h.dn v k e
  exact .inl (by omega)
theorem cand_closed {g : List (List Int)} {lab : Nat → Int} {m : Nat} {R : List Nat} (hc : ClosedR g lab R) {a : Nat} (ha : Cand g lab m R a) : ClosedR g lab (R ++ [a]) := by
 rintro v k ⟨b, hb, e⟩ he
 rcases List.mem_append.1 hb with hb | hb
 ·obtain ⟨c, hc1, hc2⟩ := hc v k ⟨b, hb, e⟩ he
  exact ⟨c, List.mem_append_left _ hc1, hc2⟩
 ·simp at hb; subst hb
  rcases ha.2.2 v k e he with h1 | ⟨c, hc1, hc2⟩
  ·exact ⟨b, by simp, h1⟩
  ·exact ⟨c, List.mem_append_left _ hc1, hc2⟩
theorem cand_some {g : List (List Int)} {lab : Nat → Int} {m : Nat} (h : Lab g lab m) {R : List Nat} : ∀ c, c < m → c ∉ R → ∃ a, Cand g lab m R a := by
 intro c
 induction c using Nat.strongRecOn with
 | _ c ih =>
  intro hc hcR
  by_cases e : Cand g lab m R c
  ·exact ⟨c, e⟩
  ·have : ∃ v k, lab v = (c : Int) ∧ Edge g v k ∧ ¬ (lab k = (c : Int) ∨ ∃ b ∈ R, lab k = (b : Int)) := Classical.byContradiction fun hn => e ⟨hc, hcR, fun v k h1 h2 => Classical.byContradiction fun h3 => hn ⟨v, k, h1, h2, h3⟩⟩
   obtain ⟨v, k, h1, h2, h3⟩ := this
   have h4 := h.dn v k h2
   have h5 := h.lt k h2.lt.2
   have h6 : lab k ≠ (c : Int) := fun hh => h3 (.inl hh)
   exact ih (lab k).toNat (by omega) (by omega) fun hm => h3 (.inr ⟨_, hm, by omega⟩)
theorem pigeon : ∀ {a b : List Nat}, a.Nodup → (∀ s ∈ a, s ∈ b) → a.length ≤ b.length
 | [], _, _, _ => Nat.zero_le _
 | x :: a, b, h, hm => by
  rw [List.nodup_cons] at h
  have h1 : x ∈ b := hm x (by simp)
  have := pigeon (a := a) (b := b.erase x) h.2 fun s hs => (List.mem_erase_of_ne (fun e : s = x => h.1 (by rw [← e]; exact hs))).2 (hm s (List.mem_cons_of_mem _ hs))
  rw [List.length_erase_of_mem h1] at this
  have := List.length_pos_of_mem h1
  rw [List.length_cons]
  omega
theorem all_in {R : List Nat} {m : Nat} (hn : R.Nodup) (hl : ∀ a ∈ R, a < m) (he : m ≤ R.length) : ∀ a, a < m → a ∈ R := by
 intro a ha
 refine Classical.byContradiction fun hna => ?_
 have := pigeon (a := a :: R) (b := List.range m) (List.nodup_cons.2 ⟨hna, hn⟩) fun s hs => by
  rcases List.mem_cons.1 hs with rfl | hs
  ·exact List.mem_range.2 ha
  ·exact List.mem_range.2 (hl s hs)
 rw [List.length_cons, List.length_range] at this
 omega
def DR (g : List (List Int)) (lab : Nat → Int) (R : List Nat) : Nat → Prop := fun v => v < g.length ∧ ∃ b ∈ R, lab v = (b : Int)
theorem DR_snoc (g : List (List Int)) (lab : Nat → Int) (R : List Nat) (a : Nat) : DR g lab (R ++ [a]) = fun v => DR g lab R v ∨ v ∈ memL g lab a := by
 funext v
 apply propext
 rw [mem_memL]
 unfold DR
 constructor
 ·rintro ⟨h1, b, hb, e⟩
  rcases List.mem_append.1 hb with hb | hb
  ·exact .inl ⟨h1, b, hb, e⟩
  ·simp at hb; subst hb; exact .inr ⟨h1, e⟩
 ·rintro (⟨h1, b, hb, e⟩ | ⟨h1, e⟩)
  ·exact ⟨h1, b, List.mem_append_left _ hb, e⟩
  ·exact ⟨h1, a, by simp, e⟩
theorem RT.lt {g : List (List Int)} {i k : Nat} (h : RT g i k) (hi : i < g.length) : k < g.length := by
 cases h with
 | refl => exact hi
 | step _ e => exact e.lt.2
theorem free_DR {g : List (List Int)} {lab : Nat → Int} {R : List Nat} {i : Nat} : Free g (DR g lab R) i ↔ Free g (fun v => ∃ b ∈ R, lab v = (b : Int)) i := by
 constructor
 ·rintro ⟨h1, h2, h3⟩
  refine ⟨h1, fun h => h2 ⟨h1, h⟩, fun k hk => ?_⟩
  rcases h3 k hk with h | h
  ·exact .inl h.2
  ·exact .inr h
 ·rintro ⟨h1, h2, h3⟩
  refine ⟨h1, fun h => h2 h.2, fun k hk => ?_⟩
  rcases h3 k hk with h | h
  ·exact .inl ⟨hk.lt h1, h⟩
  ·exact .inr h
structure Out (g : List (List Int)) (lab : Nat → Int) (m : Nat) (R : List Nat) : Prop where
 nd : R.Nodup
 lt : ∀ a ∈ R, a < m
 cl : ClosedR g lab R
 pre : KPre g (DR g lab []) (R.map (memL g lab)) (DR g lab R)
theorem Out.zero (g : List (List Int)) (lab : Nat → Int) (m : Nat) : Out g lab m [] :=
 ⟨List.nodup_nil, fun a h => (by cases h), fun v k h => (by obtain ⟨b, hb, _⟩ := h; cases hb), .nil⟩
theorem range_head {n : Nat} {p : Nat → Bool} {i : Nat} (h : ((List.range n).filter p).head? = some i) : ∀ j ∈ (List.range n).filter p, i ≤ j := by
 have hs : ((List.range n).filter p).Pairwise (· < ·) := (List.pairwise_lt_range).filter _
 generalize (List.range n).filter p = l at *
 cases l with
 | nil => cases h
 | cons x l =>
  injection h with h
  subst h
  intro j hj
  rcases List.mem_cons.1 hj with rfl | hj
  ·exact Nat.le_refl _
  ·exact Nat.le_of_lt ((List.pairwise_cons.1 hs).1 j hj)
theorem memL_head {g : List (List Int)} {lab : Nat → Int} {a i : Nat} (h : (memL g lab a).head? = some i) : i ∈ memL g lab a ∧ ∀ j ∈ memL g lab a, i ≤ j :=
 ⟨List.mem_of_mem_head? h, range_head h⟩
theorem memL_ne {g : List (List Int)} {lab : Nat → Int} {m a : Nat} (h : Lab g lab m) (ha : a < m) : ∃ i, (memL g lab a).head? = some i := by
 obtain ⟨v, hv, e⟩ := h.all a ha
 have : v ∈ memL g lab a := mem_memL.2 ⟨hv, e⟩
 generalize memL g lab a = l at *
 cases l with
 | nil => cases this
 | cons x l => exact ⟨x, rfl⟩
theorem Out.next {g : List (List Int)} {lab : Nat → Int} {m : Nat} {R : List Nat} (hL : Lab g lab m) (h : Out g lab m R) {a i : Nat} (hc : Cand g lab m R a) (hi : (memL g lab a).head? = some i)
  (hmin : ∀ b j, Cand g lab m R b → (memL g lab b).head? = some j → i ≤ j) : Out g lab m (R ++ [a]) := by
 obtain ⟨him, _⟩ := memL_head hi
 refine ⟨?_, ?_, cand_closed h.cl hc, ?_⟩
 ·rw [List.nodup_append]
  refine ⟨h.nd, List.nodup_cons.2 ⟨by simp, List.nodup_nil⟩, fun x hx y hy e => ?_⟩
  simp at hy
  subst hy
  subst e
  exact hc.2.1 hx
 ·intro x hx
  rcases List.mem_append.1 hx with hx | hx
  ·exact h.lt x hx
  ·simp at hx; subst hx; exact hc.1
 ·rw [List.map_append, DR_snoc]
  have hk := memL_knot hL him
  show KPre g _ (R.map (memL g lab) ++ [memL g lab a]) _
  rw [hk]
  refine .snoc h.pre (free_DR.2 (cand_free hL h.cl hc him)) fun j hj => ?_
  obtain ⟨b, hb, hjb⟩ := free_cand hL (free_DR.1 hj)
  obtain ⟨j', hj'⟩ := memL_ne hL hb.1
  exact Nat.le_trans (hmin b j' hb hj') ((memL_head hj').2 j hjb)
theorem Out.done {g : List (List Int)} {lab : Nat → Int} {m : Nat} {R : List Nat} (hL : Lab g lab m) (h : Out g lab m R) (hm : m ≤ R.length) : KSeq g (fun _ => False) (R.map (memL g lab)) := by
 have hall := all_in h.nd h.lt hm
 have h1 : KSeq g (DR g lab R) [] := .nil fun v hv => by
  have := hL.lt v hv
  exact ⟨hv, (lab v).toNat, hall _ (by omega), by omega⟩
 have h2 := kpre_seq h.pre h1
 have h3 : DR g lab [] = fun _ => False := by
  funext v
  apply propext
  refine ⟨fun ⟨_, b, hb, _⟩ => (by cases hb), fun h => h.elim⟩
 rw [h3, List.append_nil] at h2
 exact h2
theorem Out.more {g : List (List Int)} {lab : Nat → Int} {m : Nat} {R : List Nat} (hL : Lab g lab m) (h : Out g lab m R) (hm : R.length < m) : ∃ a, Cand g lab m R a := by
 have : ∃ c, c < m ∧ c ∉ R := Classical.byContradiction fun hn => by
  have := pigeon (a := List.range m) (b := R) List.nodup_range fun s hs => Classical.byContradiction fun hs2 => hn ⟨s, List.mem_range.1 hs, hs2⟩
  rw [List.length_range] at this
  omega
 obtain ⟨c, hc, hcR⟩ := this
 exact cand_some hL c hc hcR
def memI (lab : Nat → Int) (i a : Nat) : List Nat := (List.range i).filter fun v => decide (lab v = (a : Int))
theorem memI_full (g : List (List Int)) (lab : Nat → Int) (a : Nat) : memI lab g.length a = memL g lab a := rfl
theorem memI_succ (lab : Nat → Int) (i a : Nat) : memI lab (i + 1) a = if lab i = (a : Int) then memI lab i a ++ [i] else memI lab i a := by
 unfold memI
 rw [List.range_succ, List.filter_append]
 by_cases e : lab i = (a : Int) <;> simp [e]
def WaitI (g : List (List Int)) (lab : Nat → Int) (i a : Nat) (x : Int) : Prop := ∃ v k, v < i ∧ lab v = (a : Int) ∧ Edge g v k ∧ lab k ≠ (a : Int) ∧ x = lab k
theorem cand_iff {g : List (List Int)} {lab : Nat → Int} {m : Nat} {R : List Nat} {a : Nat} (ha : a < m) (haR : a ∉ R) {ws : List Int} (hw : ∀ x, x ∈ ws ↔ WaitI g lab g.length a x ∧ ¬ ∃ b ∈ R, x = ((b : Nat) : Int)) : ws = [] ↔ Cand g lab m R a := by
 constructor
 ·rintro rfl
  refine ⟨ha, haR, fun v k hv e => ?_⟩
  by_cases h1 : lab k = (a : Int)
  ·exact .inl h1
  ·refine .inr (Classical.byContradiction fun hn => ?_)
   have := (hw (lab k)).2 ⟨⟨v, k, e.lt.1, hv, e, h1, rfl⟩, hn⟩
   cases this
 ·rintro ⟨_, _, h⟩
  cases ws with
  | nil => rfl
  | cons x ws =>
   obtain ⟨⟨v, k, _, hv, e, h1, h2⟩, hn⟩ := (hw x).1 (by simp)
   rcases h v k hv e with h3 | h3
   ·exact absurd h3 h1
   ·obtain ⟨b, hb, e2⟩ := h3
    exact absurd ⟨b, hb, by rw [h2]; exact e2⟩ hn
theorem knot_sorted (g : List (List Int)) (i : Nat) : (knotOf g i).Pairwise (· < ·) := (List.pairwise_lt_range).filter _
theorem knot_nodup (g : List (List Int)) (i : Nat) : (knotOf g i).Nodup := (knot_sorted g i).imp fun {a b} h e => by omega
structure KFacts (g : List (List Int)) (D : Nat → Prop) (ks : List (List Nat)) : Prop where
 row : ∀ (j : Nat) (K : List Nat), ks[j]? = some K → ∃ i, i < g.length ∧ ¬ D i ∧ i ∈ K ∧ K = knotOf g i
 all : ∀ v, v < g.length → ¬ D v → ∃ (j : Nat) (K : List Nat), ks[j]? = some K ∧ v ∈ K
 nd : ks.flatten.Nodup
 notD : ∀ v ∈ ks.flatten, ¬ D v ∧ v < g.length
 one : ∀ (j1 j2 : Nat) (K1 K2 : List Nat) (v : Nat), ks[j1]? = some K1 → v ∈ K1 → ks[j2]? = some K2 → v ∈ K2 → j1 = j2
 back : ∀ (j : Nat) (K : List Nat) (v k : Nat), ks[j]? = some K → v ∈ K → RT g v k → D k ∨ ∃ (j2 : Nat) (K2 : List Nat), j2 ≤ j ∧ ks[j2]? = some K2 ∧ k ∈ K2
theorem kseq_facts {g : List (List Int)} {D : Nat → Prop} {ks : List (List Nat)} (h : KSeq g D ks) (hD : ∀ v k, D v → RT g v k → D k) : KFacts g D ks := by
 induction h with
 | nil h => exact ⟨fun j K h => (by simp at h), fun v hv hd => absurd (h v hv) hd, List.nodup_nil, fun v hv => (by cases hv), fun j1 j2 K1 K2 v h => (by simp at h), fun j K v k h => (by simp at h)⟩
 | @cons D i out f m k ih =>
  have hi : i ∈ knotOf g i := mem_knot.2 ⟨f.1, .refl _, .refl _⟩
  have hnD : ∀ v ∈ knotOf g i, ¬ D v := fun v hv hd => f.2.1 (hD v i hd (mem_knot.1 hv).2.2)
  have hD' : ∀ v k, (D v ∨ v ∈ knotOf g i) → RT g v k → (D k ∨ k ∈ knotOf g i) := fun v k hv hr => by
   rcases hv with hv | hv
   ·exact .inl (hD v k hv hr)
   ·obtain ⟨_, h1, h2⟩ := mem_knot.1 hv
    have h3 := h1.trans hr
    rcases f.2.2 k h3 with h4 | h4
    ·exact .inl h4
    ·exact .inr (mem_knot.2 ⟨h3.lt f.1, h3, h4⟩)
  have q := ih hD'
  refine ⟨?_, ?_, ?_, ?_, ?_, ?_⟩
  ·intro j K hj
   cases j with
   | zero => simp at hj; subst hj; exact ⟨i, f.1, f.2.1, hi, rfl⟩
   | succ j =>
    obtain ⟨a, h1, h2, h3, h4⟩ := q.row j K (by simpa using hj)
    exact ⟨a, h1, fun hd => h2 (.inl hd), h3, h4⟩
  ·intro v hv hd
   by_cases e : v ∈ knotOf g i
   ·exact ⟨0, _, rfl, e⟩
   ·obtain ⟨j, K, h1, h2⟩ := q.all v hv (fun h => h.elim hd e)
    exact ⟨j + 1, K, by simpa using h1, h2⟩
  ·rw [List.flatten_cons, List.nodup_append]
   refine ⟨knot_nodup g i, q.nd, fun a ha b hb e => ?_⟩
   subst e
   exact (q.notD a hb).1 (.inr ha)
  ·intro v hv
   rw [List.flatten_cons, List.mem_append] at hv
   rcases hv with hv | hv
   ·exact ⟨hnD v hv, (mem_knot.1 hv).1⟩
   ·exact ⟨fun hd => (q.notD v hv).1 (.inl hd), (q.notD v hv).2⟩
  ·intro j1 j2 K1 K2 v h1 hv1 h2 hv2
   have hfl : ∀ (j : Nat) (K : List Nat), out[j]? = some K → v ∈ K → v ∈ out.flatten := fun j K hj hv => List.mem_flatten.2 ⟨K, List.mem_of_getElem? hj, hv⟩
   cases j1 with
   | zero =>
    cases j2 with
    | zero => rfl
    | succ j2 =>
     simp at h1 h2
     subst h1
     exact absurd (.inr hv1) (q.notD v (hfl j2 K2 h2 hv2)).1
   | succ j1 =>
    cases j2 with
    | zero =>
     simp at h1 h2
     subst h2
     exact absurd (.inr hv2) (q.notD v (hfl j1 K1 h1 hv1)).1
    | succ j2 =>
     simp at h1 h2
     rw [q.one j1 j2 K1 K2 v h1 hv1 h2 hv2]
  ·intro j K v k h1 hv hr
   cases j with
   | zero =>
    simp at h1
    subst h1
    rcases hD' v k (.inr hv) hr with h2 | h2
    ·exact .inl h2
    ·exact .inr ⟨0, _, Nat.le_refl _, rfl, h2⟩
   | succ j =>
    simp at h1
    rcases q.back j K v k h1 hv hr with (h2 | h2) | ⟨j2, K2, h2, h3, h4⟩
    ·exact .inl h2
    ·exact .inr ⟨0, _, Nat.zero_le _, rfl, h2⟩
    ·exact .inr ⟨j2 + 1, K2, by omega, by simpa using h3, h4⟩
section
variable {g : List (List Int)} {ks : List (List Nat)}
theorem knots_facts (h : KSeq g (fun _ => False) ks) : KFacts g (fun _ => False) ks := kseq_facts h fun _ _ h _ => h
theorem flat_len (h : KFacts g (fun _ => False) ks) : ks.flatten.length = g.length := by
 have h1 := pigeon (b := List.range g.length) h.nd fun v hv => List.mem_range.2 (h.notD v hv).2
 have h2 := pigeon (a := List.range g.length) (b := ks.flatten) List.nodup_range fun v hv => by
  obtain ⟨j, K, hj, hv2⟩ := h.all v (List.mem_range.1 hv) (fun h => h)
  exact List.mem_flatten.2 ⟨K, List.mem_of_getElem? hj, hv2⟩
 rw [List.length_range] at h1 h2
 omega
theorem row_sorted (h : KFacts g (fun _ => False) ks) {j : Nat} {K : List Nat} (hj : ks[j]? = some K) : K.Pairwise (· < ·) ∧ K ≠ [] := by
 obtain ⟨i, _, _, hi, rfl⟩ := h.row j K hj
 exact ⟨knot_sorted g i, fun e => by rw [e] at hi; cases hi⟩
end
end Go.Proofs.YtfkfiokkjjnhiaaGreat.Kn
namespace Go.Proofs.YtfkfiokkjjnhiaaGreat.Kn
open Go.RowKit
theorem intinfo : (Tryz.prog.info? 3).map (fun i => (i.zero, i.size, i.bytes)) = some (some (.int .i64 0), 1, 8) := by kernel_rfl
theorem boolinfo : (Tryz.prog.info? 4).map (fun i => (i.zero, i.size, i.bytes)) = some (some (.bool false), 1, 1) := by kernel_rfl
def zs (l : List Nat) : List Int := l.map fun (i : Nat) => (i : Int)
theorem zs_len (l : List Nat) : (zs l).length = l.length := by simp [zs]
theorem zs_app (a b : List Nat) : zs (a ++ b) = zs a ++ zs b := by simp [zs]
def OwZ (w : World) (A : Option Addr) (n c : Nat) (l : List Int) : Prop := Ow w 3 1 A n c (ivs l)
theorem OwZ.len {w : World} {A : Option Addr} {n c : Nat} {l : List Int} (h : OwZ w A n c l) : l.length = n := by have := h.1; rw [ivs_length] at this; omega
theorem appZ {w : World} {ops : Array Oper} {rest : List Oper} {o : Oper} {a : Act} {Q : Exit → Act → World → Prop} (hgd : o.guard = none) (s x : Operand)
  (ho : o.op = .call { callee := .builtin .append, args := #[s, x], argTypes := #[31, 31] })
  {A : Option Addr} {n c : Nat} {xs : List Int} (hs : a.eval s = .slice A n c) (hown : OwZ w A n c xs)
  {S : Option Addr} {m d : Nat} {news : List Int} (hx : a.eval x = .slice S m d) (hr : RdI w S m news) (hb : (n + m) * 8 ≤ 140737488355328)
  (h : ∀ A' c' w', OwZ w' A' (n + m) c' (xs ++ news) → Mod (fp A) w w' → (A' = A ∨ A' = some ⟨w.heap.size, 0, none⟩) → wpList Tryz.prog ops Q rest (a.put o.dst (.slice A' (n + m) c')) w') : wpList Tryz.prog ops Q (o :: rest) a w := by
 obtain ⟨i0, hi, hz0, hz1, hz2⟩ := info_parts intinfo
 refine wpList_append_ow hgd s x 31 ho 3 i0 _ 1 8 Tryz.underlying31 hi hz0 hz1 hz2 rfl (by omega) A n c (ivs xs) hs hown S m d (ivs news) hx hr (ivs_one _) (by omega) (by omega) ?_
 intro A' c' w' h1
 rw [← ivs_append] at h1
 exact h A' c' w' h1
theorem rdi_one' (w : World) (e : TypeId) (g : Nat) (hg : g = w.heap.size) (x : Int) : RdI (w.alloc (.cells #[.int .i64 x] e)) (some ⟨g, 0, none⟩) 1 [x] :=
 rdn w e 1 1 g #[.int .i64 x] (0, 0) hg rfl
theorem rdi_get {w : World} {A : Option Addr} {n : Nat} {xs : List Int} (h : RdI w A n xs) {j : Nat} (hj : j < n) : ∃ b o, A = some ⟨b, o, none⟩ ∧ ∃ hl : j < xs.length, w.cell? ⟨b, o + j, none⟩ = some (.int .i64 xs[j]) := by
 obtain ⟨b, o, e, hc⟩ := Rd.form h (by omega) (by omega)
 have hl : j < xs.length := by rw [h.len]; exact hj
 exact ⟨b, o, e, hl, hc j _ (ivs_get hl)⟩
def rowI (n : Nat) (f : Nat → Int) : Array Value := ((List.range n).map fun i => Value.int .i64 (f i)).toArray
def rowT (n : Nat) (f : Nat → Bool) : Array Value := ((List.range n).map fun i => Value.bool (f i)).toArray
theorem rowI_get {n : Nat} (f : Nat → Int) {i : Nat} (h : i < n) : (rowI n f)[i]? = some (.int .i64 (f i)) := by simp [rowI, h]
theorem rowT_get {n : Nat} (f : Nat → Bool) {i : Nat} (h : i < n) : (rowT n f)[i]? = some (.bool (f i)) := by simp [rowT, h]
theorem range_set {α β : Type} (n : Nat) (f : Nat → α) (G : α → β) (i : Nat) (x : α) : ((List.range n).map fun j => G (f j)).set i (G x) = (List.range n).map fun j => G (upd f i x j) := by
 apply List.ext_getElem?
 intro j
 rw [List.getElem?_set, List.getElem?_map, List.getElem?_map, List.length_map, List.length_range]
 by_cases hj : j < n
 ·rw [List.getElem?_range hj]
  by_cases e : i = j
  ·subst e; simp [hj, upd]
  ·rw [if_neg e]; simp [upd_ne _ _ (Ne.symm e)]
 ·rw [List.getElem?_eq_none (by simpa using hj)]
  by_cases e : i = j
  ·subst e; simp [hj]
  ·simp [e]
theorem rowI_set (n : Nat) (f : Nat → Int) (i : Nat) (x : Int) : (rowI n f).setIfInBounds i (.int .i64 x) = rowI n (upd f i x) := by
 unfold rowI
 rw [List.setIfInBounds_toArray, range_set n f (fun x => Value.int .i64 x)]
theorem rowT_set (n : Nat) (f : Nat → Bool) (i : Nat) (x : Bool) : (rowT n f).setIfInBounds i (.bool x) = rowT n (upd f i x) := by
 unfold rowT
 rw [List.setIfInBounds_toArray, range_set n f (fun x => Value.bool x)]
theorem made_rowI (n : Nat) : madeCells #[.int .i64 0] n = rowI n fun _ => 0 := by
 apply Array.ext'
 simp [madeCells, rowI, Nat.mod_one]
theorem made_rowT (n : Nat) : madeCells #[.bool false] n = rowT n fun _ => false := by
 apply Array.ext'
 simp [madeCells, rowT, Nat.mod_one]
def RdG (w : World) (A : Option Addr) (n : Nat) (ss : List SV) (g : List (List Int)) : Prop :=
 Rd w 1 A n (ss.map SV.v) ∧ ss.length = g.length ∧ ∀ (i : Nat) (s : SV) (l : List Int), ss[i]? = some s → g[i]? = some l → RdI w s.a s.n l ∧ s.n ≤ s.c ∧ s.n ≤ 140737488355328
theorem RdG.len {w : World} {A : Option Addr} {n : Nat} {ss : List SV} {g : List (List Int)} (h : RdG w A n ss g) : g.length = n := by
 have h1 := h.1.1
 rw [List.length_map] at h1
 have := h.2.1
 omega
theorem RdG.mod0 {w w' : World} {A : Option Addr} {n : Nat} {ss : List SV} {g : List (List Int)} (h : RdG w A n ss g) (hm : Mod none_ w w') : RdG w' A n ss g :=
 ⟨Rd.mod0 h.1 hm, h.2.1, fun i s l hs hl => ⟨Rd.mod0 (h.2.2 i s l hs hl).1 hm, (h.2.2 i s l hs hl).2⟩⟩
theorem RdG.get {w : World} {A : Option Addr} {n : Nat} {ss : List SV} {g : List (List Int)} (h : RdG w A n ss g) {j : Nat} (hj : j < n) :
  ∃ b o B k c l, A = some ⟨b, o, none⟩ ∧ w.cell? ⟨b, o + j, none⟩ = some (.slice B k c) ∧ g[j]? = some l ∧ RdI w B k l ∧ k ≤ c ∧ k ≤ 140737488355328 := by
 obtain ⟨b, o, e, hc⟩ := Rd.form h.1 (show 0 < n by omega) (by omega)
 have hl := h.len
 have hs := h.2.1
 have hjs : j < ss.length := by omega
 have hjl : j < g.length := by omega
 have h1 := hc j (.slice ss[j].a ss[j].n ss[j].c) (by rw [List.getElem?_map, List.getElem?_eq_getElem hjs]; rfl)
 have h2 := h.2.2 j ss[j] g[j] (List.getElem?_eq_getElem hjs) (List.getElem?_eq_getElem hjl)
 exact ⟨b, o, ss[j].a, ss[j].n, ss[j].c, g[j], e, h1, List.getElem?_eq_getElem hjl, h2⟩
def OwG (w : World) (G : Option Addr) (m c : Nat) (ss : List SV) (g : List (List Int)) : Prop :=
 Ow w 31 1 G m c (ss.map SV.v) ∧ ss.length = g.length ∧ ∀ (i : Nat) (s : SV) (l : List Int), ss[i]? = some s → g[i]? = some l → RdI w s.a s.n l ∧ s.n ≤ s.c ∧ s.n ≤ 140737488355328 ∧ (0 < s.n → ∀ k, fp s.a k → ¬ fp G k)
section
variable {w w' : World} {G : Option Addr} {m c : Nat} {ss : List SV} {g : List (List Int)}
theorem OwG.nil (w : World) : OwG w none 0 0 [] [] := ⟨Ow.nil _ _ _, rfl, fun i s l hs _ => by simp at hs⟩
theorem OwG.len (h : OwG w G m c ss g) : g.length = m := by
 have h1 := h.1.1
 rw [List.length_map] at h1
 have := h.2.1
 omega
theorem OwG.mod0 (h : OwG w G m c ss g) (hm : Mod none_ w w') : OwG w' G m c ss g :=
 ⟨Ow.mod0 h.1 hm, h.2.1, fun i s l hs hl => ⟨Rd.mod0 (h.2.2 i s l hs hl).1 hm, (h.2.2 i s l hs hl).2⟩⟩
theorem OwG.rd (h : OwG w G m c ss g) : RdG w G m ss g := ⟨Ow.rd h.1, h.2.1, fun i s l hs hl => ⟨(h.2.2 i s l hs hl).1, (h.2.2 i s l hs hl).2.1, (h.2.2 i s l hs hl).2.2.1⟩⟩
theorem OwG.push (h : OwG w G m c ss g) {s : SV} {l : List Int} (h1 : RdI w s.a s.n l) (h2 : s.n ≤ s.c) (h2b : s.n ≤ 140737488355328) (h3 : 0 < s.n → ∀ k, fp s.a k → ¬ fp G k) {w1 : World} {G' : Option Addr} {c' : Nat} (hown : Ow w1 31 1 G' (m + 1) c' ((ss ++ [s]).map SV.v))
  (hm : Mod (fp G) w w1) (hA : G' = G ∨ ∃ b, G' = some ⟨b, 0, none⟩ ∧ w.heap.size ≤ b) : OwG w1 G' (m + 1) c' (ss ++ [s]) (g ++ [l]) := by
 have key : ∀ (s : SV) (l : List Int), RdI w s.a s.n l → (0 < s.n → ∀ k, fp s.a k → ¬ fp G k) → RdI w1 s.a s.n l ∧ (0 < s.n → ∀ k, fp s.a k → ¬ fp G' k) := by
  intro s l h1 h3
  refine ⟨Rd.mod' h1 hm h3, fun h0 k hk => ?_⟩
  rcases hA with rfl | ⟨b, rfl, hb⟩
  ·exact h3 h0 k hk
  ·rintro ⟨a, ha, rfl⟩
   cases ha
   have := Rd.lt h1 h0 _ hk
   simp only at this
   omega
 refine ⟨hown, by simp [h.2.1], fun i s' l' hs hl => ?_⟩
 by_cases hi : i < ss.length
 ·rw [List.getElem?_append_left hi] at hs
  rw [List.getElem?_append_left (by rw [← h.2.1]; exact hi)] at hl
  have := h.2.2 i s' l' hs hl
  have k2 := key s' l' this.1 this.2.2.2
  exact ⟨k2.1, this.2.1, this.2.2.1, k2.2⟩
 ·rw [List.getElem?_append_right (by omega)] at hs
  rw [List.getElem?_append_right (by rw [← h.2.1]; omega), ← h.2.1] at hl
  have e : i - ss.length = 0 := by
   rcases Nat.lt_or_ge (i - ss.length) 1 with h5 | h5
   ·omega
   ·rw [List.getElem?_eq_none (by simpa using h5)] at hs; cases hs
  rw [e] at hs hl
  simp at hs hl
  subst hs hl
  have k2 := key s l h1 h3
  exact ⟨k2.1, h2, h2b, k2.2⟩
end
set_option maxRecDepth 512
theorem slginfo : (Tryz.prog.info? 31).map (fun i => (i.zero, i.size, i.bytes)) = some (some (.slice none 0 0), 1, 24) := by kernel_rfl
theorem svs_one (ss : List SV) : ∀ u ∈ ss.map SV.v, u.oneCell' = true := by
 intro u hu
 obtain ⟨s, _, rfl⟩ := List.mem_map.1 hu
 rfl
theorem appG {w : World} {ops : Array Oper} {rest : List Oper} {o : Oper} {a : Act} {Q : Exit → Act → World → Prop} (hgd : o.guard = none) (s x : Operand)
  (ho : o.op = .call { callee := .builtin .append, args := #[s, x], argTypes := #[165, 165] })
  {A : Option Addr} {n c : Nat} {xs : List SV} (hs : a.eval s = .slice A n c) (hown : Ow w 31 1 A n c (xs.map SV.v))
  {S : Option Addr} {m d : Nat} {news : List SV} (hx : a.eval x = .slice S m d) (hr : Rd w 1 S m (news.map SV.v)) (hb : (n + m) * 24 ≤ 140737488355328)
  (h : ∀ A' c' w', Ow w' 31 1 A' (n + m) c' ((xs ++ news).map SV.v) → Mod (fp A) w w' → (A' = A ∨ A' = some ⟨w.heap.size, 0, none⟩) → wpList Tryz.prog ops Q rest (a.put o.dst (.slice A' (n + m) c')) w') : wpList Tryz.prog ops Q (o :: rest) a w := by
 obtain ⟨i0, hi, hz0, hz1, hz2⟩ := info_parts slginfo
 refine wpList_append_ow hgd s x 165 ho 31 i0 _ 1 24 Tryz.underlying165 hi hz0 hz1 hz2 rfl (by omega) A n c (xs.map SV.v) hs hown S m d (news.map SV.v) hx hr (svs_one _) (by omega) (by omega) ?_
 intro A' c' w' h1
 rw [← List.map_append] at h1
 exact h A' c' w' h1
theorem rds_one (w : World) (g : Nat) (hg : g = w.heap.size) (e : TypeId) (s : SV) : Rd (w.alloc (.cells #[.slice s.a s.n s.c] e)) 1 (some ⟨g, 0, none⟩) 1 ([s].map SV.v) :=
 rdn w e 1 1 g #[.slice s.a s.n s.c] (0, 0) hg rfl
structure Fin' where
 p : Nat
 N : Nat
 L : Nat
 O : Nat
 K : Nat
structure Fin (w : World) (B : Fin') (A : Option Addr) (n c : Nat) (T : Option Addr) (d : Nat) (S : KS) : Prop where
 blk : Blk w B.p 311 #[.slice A n c, .slice (some ⟨B.N, 0, none⟩) n n, .slice (some ⟨B.L, 0, none⟩) n n, .slice (some ⟨B.O, 0, none⟩) n n, .slice T S.stk.length d, .slice (some ⟨B.K, 0, none⟩) n n, .int .i64 (S.cnt : Int)]
 num : Blk w B.N 3 (rowI n S.num)
 low : Blk w B.L 3 (rowI n S.low)
 on : Blk w B.O 4 (rowT n S.on)
 knot : Blk w B.K 3 (rowI n S.knot)
 stk : OwZ w T S.stk.length d (zs S.stk)
 nl : B.N ≠ B.L
 nk : B.N ≠ B.K
 lk : B.L ≠ B.K
 tn : ¬ fp T B.N
 tl : ¬ fp T B.L
 tk : ¬ fp T B.K
def EnF (B : Fin') (T : Option Addr) : Nat → Prop := fun k => k = B.p ∨ k = B.N ∨ k = B.L ∨ k = B.O ∨ fp T k
theorem results_cell1 {fn : Func} {p : Tmp} {ty : TypeId} (h : fn.results = #[.cell p ty]) (tmps : Array Value) (w : World) (g : Nat) (cs : Array Value)
  (hp : tmps.getD p undef = .pointer (some ⟨g, 0, none⟩)) (hl : (loadVar ty ⟨g, 0, none⟩).run Tryz.prog w = .ok (.agg cs) w) :
  (results fn tmps).run Tryz.prog w = .ok (.agg cs) w := by
 have hp' : tmps[p]?.getD undef = .pointer (some ⟨g, 0, none⟩) := by simpa using hp
 simp [results, h, hp', asAddr, hl]
theorem frame_size : (Tryz.prog.info? 335).map (·.size) = some 2 := by kernel_rfl
theorem ret_frame {fn : Func} {p : Tmp} (h : fn.results = #[.cell p 335]) {a : Act} {w : World} {R : Ending → World → Prop} (g : Nat) (cs : Array Value) (hp : a.tmps.getD p undef = .pointer (some ⟨g, 0, none⟩))
  (hg : Blk w g 335 cs) (hs : cs.size = 2) (hd : a.defers = []) (hR : R (.returned (.agg cs)) w) : bodyPost Tryz.prog fn R .ret a w :=
 bodyPost_ret (results_cell1 h a.tmps w g cs hp (run_loadVar_row w g _ _ cs _ _ hg Tryz.underlying335 rfl (by rw [hs]; exact frame_size))) hd hR
set_option maxRecDepth 100000
theorem enter_ok (w : World) (B : Fin') (A : Option Addr) (n c : Nat) (T : Option Addr) (d : Nat) (S : KS) (h : Fin w B A n c T d S) (i : Nat) (hi : i < n) (hn : n ≤ 1000000) (hs : S.stk.length + S.cnt ≤ 1000000) :
  Calls Tryz.prog 263 #[.pointer (some ⟨B.p, 0, none⟩), .int .i64 (i : Int)] w fun e w' => e = .returned (.agg #[.int .i64 (i : Int), .int .i64 0]) ∧
   ∃ T' d', Fin w' B A n c T' d' (enterK S i) ∧ Mod (EnF B T) w w' ∧ (T' = T ∨ ∃ g, T' = some ⟨g, 0, none⟩ ∧ w.heap.size ≤ g) := by
 obtain ⟨h1, h2, h3, h4, h5, h6, h7, h8, h9, h10, h11, h12⟩ := h
 have y0 := h1.cell_ (i := 0) rfl
 have y1 := h1.cell_ (i := 1) rfl
 have y2 := h1.cell_ (i := 2) rfl
 have y3 := h1.cell_ (i := 3) rfl
 have y4 := h1.cell_ (i := 4) rfl
 have y6 := h1.cell_ (i := 6) rfl
 have z4 := h1.frozen 4
 have q1 := h2.cell_ (rowI_get S.num hi)
 have q2 := h3.cell_ (rowI_get S.low hi)
 have q3 := h4.cell_ (rowT_get S.on hi)
 have v1 := h2.frozen i
 have v2 := h3.frozen i
 have v3 := h4.frozen i
 have pN : ¬ B.p = B.N := h1.ne_ h2 (by decide)
 have pL : ¬ B.p = B.L := h1.ne_ h3 (by decide)
 have pO : ¬ B.p = B.O := h1.ne_ h4 (by decide)
 have oN : ¬ B.O = B.N := h4.ne_ h2 (by decide)
 have oL : ¬ B.O = B.L := h4.ne_ h3 (by decide)
 have l1 := h1.lt
 have l2 := h2.lt
 have l3 := h3.lt
 have l4 := h4.lt
 obtain ⟨p, bN, bL, bO, bK⟩ := B
 dsimp only at *
 replace h1 := zH h1
 replace h2 := zH h2
 replace h3 := zH h3
 replace h4 := zH h4
 replace h5 := zH h5
 replace h6 := zH h6
 replace h10 := zH h10
 replace h11 := zH h11
 replace h12 := zH h12
 go_enter Tryz.func263, Tryz.ntmps263
 go_wp2_with fail
 go_region
 have hr : ∀ x : Int, ∃ w1 : World, w1 = (((w.setCell { block := bN, off := i } (Value.int IntKind.i64 x)).setCell { block := bL, off := i } (Value.int IntKind.i64 x)).alloc (Obj.cells #[Value.int IntKind.i64 0, Value.int IntKind.i64 0] 335)).drew ∧
   Mod (fun k => k = bN ∨ k = bL) w w1 ∧ Blk w1 bN 3 (rowI n (upd S.num i x)) ∧ Blk w1 bL 3 (rowI n (upd S.low i x)) ∧ Blk w1 w.heap.size 335 #[.int .i64 0, .int .i64 0] ∧ w1.heap.size = w.heap.size + 1 := fun x => ⟨_, rfl,
  ((((Mod.refl (fun k => k = bN ∨ k = bL) w).setCell (p := ⟨bN, i, none⟩) (.inl (.inl rfl)) _).setCell (p := ⟨bL, i, none⟩) (.inl (.inr rfl)) _).alloc _).drew,
  by rw [← rowI_set]; exact (((h2.out.set_ i _).far h7 _).alloc _).drew,
  by rw [← rowI_set]; exact (((h3.out.far (fun e => h7 e.symm) _).set_ i _).alloc _).drew,
  by have := (Blk.new ((w.setCell { block := bN, off := i } (Value.int IntKind.i64 x)).setCell { block := bL, off := i } (Value.int IntKind.i64 x)) 335 #[Value.int IntKind.i64 0, Value.int IntKind.i64 0]).drew; simpa [World.setCell] using this,
  by simp [World.setCell]⟩
 obtain ⟨w1, hw1, m1, b2, b3, bf, hsz⟩ := hr (↑S.stk.length + ↑S.cnt)
 rw [← hw1]
 clear hw1 hr
 have hp3 : ¬ (p = bN ∨ p = bL) := fun he => he.elim pN pL
 have ho3 : ¬ (bO = bN ∨ bO = bL) := fun he => he.elim oN oL
 have hk3 : ¬ (bK = bN ∨ bK = bL) := fun he => he.elim (fun e => h8 e.symm) (fun e => h9 e.symm)
 have hT3 : ∀ k, fp T k → ¬ (k = bN ∨ k = bL) := fun k hk he => he.elim (fun e => h10.out (e ▸ hk)) (fun e => h11.out (e ▸ hk))
 have b1 := h1.out.mod m1 hp3
 have b4 := h4.out.mod m1 ho3
 have b5 := h5.out.mod m1 hk3
 have b6 : OwZ w1 T S.stk.length d (zs S.stk) := Ow.mod h6.out m1 hT3
 clear y0 y1 y2 y3 y4 y6 z4 q1 q2 q3 v1 v2 v3
 have y0 := b1.cell_ (i := 0) rfl
 have y3 := b1.cell_ (i := 3) rfl
 have y4 := b1.cell_ (i := 4) rfl
 have q3 := b4.cell_ (rowT_get S.on hi)
 have v3 := b4.frozen i
 have hpf : ¬ p = w.heap.size := by omega
 have hOf : ¬ bO = w.heap.size := by omega
 have g1 := b1.lt
 have g4 := b4.lt
 have hO2 := b4.set_ i (.bool true)
 have b1o := b1.far pO (p := ⟨bO, i, none⟩) (.bool true)
 have bfo := bf.far (fun e => hOf e.symm) (p := ⟨bO, i, none⟩) (.bool true)
 have m2 := (Mod.refl (fun k => k = bO) w1).setCell (p := ⟨bO, i, none⟩) (.inl rfl) (.bool true)
 have hTO : ¬ fp T bO := Ow.ne_blk b6 b4 (by decide)
 have hTp : ¬ fp T p := Ow.ne_blk b6 b1 (by decide)
 have hTf : ¬ fp T w.heap.size := Ow.ne_blk b6 bf (by decide)
 have b6o : OwZ (w1.setCell ⟨bO, i, none⟩ (.bool true)) T S.stk.length d (zs S.stk) := Ow.mod b6 m2 (fun k hk e => hTO (e ▸ hk))
 replace m1 := zH m1
 replace b2 := zH b2
 replace b3 := zH b3
 replace bf := zH bf
 replace hsz := zH hsz
 replace hp3 := zH hp3
 replace ho3 := zH ho3
 replace hk3 := zH hk3
 replace hT3 := zH hT3
 replace b1 := zH b1
 replace b4 := zH b4
 replace b5 := zH b5
 replace b6 := zH b6
 replace hO2 := zH hO2
 replace b1o := zH b1o
 replace bfo := zH bfo
 replace m2 := zH m2
 replace hTO := zH hTO
 replace hTp := zH hTp
 replace hTf := zH hTf
 replace b6o := zH b6o
 go_wp2_with (at_builtin; go_loud (refine appZ rfl (.tmp 47) (.tmp 49) rfl rfl (Ow.mod0 b6o.out ((Mod.refl none_ _).alloc _)) rfl (show RdI _ _ 1 [(i : Int)] from rdi_one' _ _ w1.heap.size (by simp [World.setCell]) _) (by omega) ?_; intro T' d' w6 ho6 hm6 hA6; have c6 := (Blk.alloc b1o.out _).mod hm6 hTp.out; have f6 := (Blk.alloc bfo.out _).mod hm6 hTf.out; have x4 := c6.cell_ (i := 4) rfl; have u4 := c6.frozen 4; have xf0 := f6.cell_ (i := 0) rfl; have xf1 := f6.cell_ (i := 1) rfl; have uf0 := f6.frozen 0; have uf1 := f6.frozen 1; replace c6 := zH c6; replace f6 := zH f6; replace ho6 := zH ho6; replace hm6 := zH hm6; replace hA6 := zH hA6))
 have hfr : Blk (((w6.setCell ⟨p, 4, none⟩ (Value.slice T' (S.stk.length + 1) d')).setCell ⟨w.heap.size, 0, none⟩ (.int .i64 i)).setCell ⟨w.heap.size, 1, none⟩ (.int .i64 0)) w.heap.size 335 #[.int .i64 (i : Int), .int .i64 0] := by
  have := (((f6.out.far (p := ⟨p, 4, none⟩) (fun e => hpf e.symm) (Value.slice T' (S.stk.length + 1) d')).set_ 0 (.int .i64 (i : Int))).set_ 1 (.int .i64 0))
  simpa using this
 refine ret_frame rfl w.heap.size _ rfl hfr rfl rfl ?_
 have hT' : ∀ k, k < w.heap.size → ¬ fp T k → ¬ fp T' k := by
  intro k hk hn hT
  rcases hA6.out with e | e
  ·exact hn (e ▸ hT)
  ·obtain ⟨a, ha, rfl⟩ := hT
   rw [e] at ha
   cases ha
   have := hsz.out
   simp [World.setCell] at hk
   omega
 have e1 : (Mod (EnF ⟨p, bN, bL, bO, bK⟩ T) w w6) := by
  refine Mod.trans ((((m1.out.mono ?_).setCell (p := ⟨bO, i, none⟩) (.inl ?_) _).alloc _)) (hm6.out.mono ?_)
  ·rintro k (rfl | rfl)
   ·exact .inr (.inl rfl)
   ·exact .inr (.inr (.inl rfl))
  ·exact .inr (.inr (.inr (.inl rfl)))
  ·exact fun k hk => .inr (.inr (.inr (.inr hk)))
 have e2 : ∀ {g : Nat} {t : TypeId} {cs : Array Value}, Blk w6 g t cs → g ≠ p → g ≠ w.heap.size → Blk (((w6.setCell ⟨p, 4, none⟩ (Value.slice T' (S.stk.length + 1) d')).setCell ⟨w.heap.size, 0, none⟩ (.int .i64 i)).setCell ⟨w.heap.size, 1, none⟩ (.int .i64 0)) g t cs :=
  fun h h1 h2 => ((h.far (p := ⟨p, 4, none⟩) h1 _).far (p := ⟨w.heap.size, 0, none⟩) h2 _).far (p := ⟨w.heap.size, 1, none⟩) h2 _
 have ek : ∀ {g : Nat} {t : TypeId} {cs : Array Value}, Blk w1 g t cs → g ≠ bO → ¬ fp T g → Blk w6 g t cs := fun h h1 h2 => ((h.far (p := ⟨bO, i, none⟩) h1 _).alloc _).mod hm6.out h2
 refine ⟨rfl, T', d', ⟨?_, ?_, ?_, ?_, ?_, ?_, h7, h8, h9, hT' _ l2 h10.out, hT' _ l3 h11.out, hT' _ h5.out.lt h12.out⟩, ?_, ?_⟩
 ·have := ((c6.out.set_ 4 (Value.slice T' (S.stk.length + 1) d')).far (p := ⟨w.heap.size, 0, none⟩) hpf (.int .i64 i)).far (p := ⟨w.heap.size, 1, none⟩) hpf (.int .i64 0)
  simpa [enterK] using this
 ·exact e2 (ek b2.out (fun e => oN e.symm) h10.out) (fun e => pN e.symm) (Nat.ne_of_lt h2.out.lt)
 ·exact e2 (ek b3.out (fun e => oL e.symm) h11.out) (fun e => pL e.symm) (Nat.ne_of_lt h3.out.lt)
 ·have := hO2.out
  rw [rowT_set] at this
  exact e2 (((this.alloc _).mod hm6.out hTO.out)) (fun e => pO e.symm) (Nat.ne_of_lt h4.out.lt)
 ·exact e2 (ek b5.out (fun e => (Blk.ne_ b4.out b5.out (by decide)) e.symm) h12.out) (fun e => (Blk.ne_ b1.out b5.out (by decide)) e.symm) (Nat.ne_of_lt h5.out.lt)
 ·have hm9 : Mod (fun k => k = p ∨ k = w.heap.size) w6 (((w6.setCell ⟨p, 4, none⟩ (Value.slice T' (S.stk.length + 1) d')).setCell ⟨w.heap.size, 0, none⟩ (.int .i64 i)).setCell ⟨w.heap.size, 1, none⟩ (.int .i64 0)) :=
   (((Mod.refl _ w6).setCell (p := ⟨p, 4, none⟩) (.inl (.inl rfl)) _).setCell (p := ⟨w.heap.size, 0, none⟩) (.inl (.inr rfl)) _).setCell (p := ⟨w.heap.size, 1, none⟩) (.inl (.inr rfl)) _
  have := Ow.mod ho6.out hm9 (fun k hk he => by
   rcases he with rfl | rfl
   ·exact (Ow.ne_blk ho6.out c6.out (by decide)) hk
   ·exact (Ow.ne_blk ho6.out f6.out (by decide)) hk)
  simpa [enterK, zs, OwZ] using this
 ·exact ((e1.setCell (p := ⟨p, 4, none⟩) (.inl (.inl rfl)) _).setCell (p := ⟨w.heap.size, 0, none⟩) (.inr (Nat.le_refl _)) _).setCell (p := ⟨w.heap.size, 1, none⟩) (.inr (Nat.le_refl _)) _
 ·rcases hA6.out with e | e
  ·exact .inl e
  ·refine .inr ⟨_, e, ?_⟩
   have := hsz.out
   simp [World.setCell]
   omega
end Go.Proofs.YtfkfiokkjjnhiaaGreat.Kn
