import Derived.Test.YtfkfiokkjjnhiaaGreatUp21
import Derived.Test.YtfkfiokkjjnhiaaGreatUp22
set_option linter.unusedVariables false
set_option linter.unusedSimpArgs false
set_option maxHeartbeats 16000000
namespace Go.Proofs.YtfkfiokkjjnhiaaGreat.Kn
open Go.RowKit
open Go.Maps (Keyed int_keyed)
theorem mapI_store_run {w : World} (t : TypeId) (k e : TypeId) (ht : Tryz.prog.underlying t = some (.map k e)) (hk : Tryz.prog.underlying k = some (.int .i64))
  (b : Nat) (L : List Int) (h : MapI w k b L) (hroom : L.length + 1 < maxLen) (s : Int) (hs : (Lit.int .i64 s).wf = true) :
  ∃ w', (Instr.mapUpdate t (.map (some b)) (.int .i64 s) (.bool true)).run Tryz.prog w = .ok () w' ∧ MapI w' k b (putI s L) ∧ Mod (· = b) w w' ∧ w'.heap.size = w.heap.size := by
 obtain ⟨w', hrun, h1, h2⟩ := h.tight.store (int_keyed hk) ht (by omega) (Go.Maps.keyOf_int_mk hk hs) (d := .held (.bool true)) (ps := []) (show VR (.bool true) = some (.held (.bool true), []) from rfl)
 rw [put_setD] at h1
 refine ⟨w', hrun, ⟨_, hroom, h1⟩, (Mod.of_grown h2.grown).mono fun i hi => by cases hi; rfl, ?_⟩
 obtain ⟨es, c, es', c', _, rfl⟩ := h2
 simp [ChangeMaps.setBlock]
theorem mapinfo : (Tryz.prog.info? 93).map (fun i => (i.zero, i.size, i.bytes)) = some (some (.map none), 1, 8) := by kernel_rfl
theorem waitI_succ (g : List (List Int)) (lab : Nat → Int) (i b : Nat) (x : Int) : WaitI g lab (i + 1) b x ↔ WaitI g lab i b x ∨ (lab i = (b : Int) ∧ ∃ k, Edge g i k ∧ lab k ≠ (b : Int) ∧ x = lab k) := by
 constructor
 ·rintro ⟨v, k, hv, h1, h2, h3, h4⟩
  rcases Nat.lt_or_ge v i with h | h
  ·exact .inl ⟨v, k, h, h1, h2, h3, h4⟩
  ·obtain rfl : v = i := by omega
   exact .inr ⟨h1, k, h2, h3, h4⟩
 ·rintro (⟨v, k, hv, h1, h2, h3, h4⟩ | ⟨h1, k, h2, h3, h4⟩)
  ·exact ⟨v, k, by omega, h1, h2, h3, h4⟩
  ·exact ⟨i, k, by omega, h1, h2, h3, h4⟩
def WaitE (lab : Nat → Int) (n a : Nat) (l : List Int) (e : Nat) (x : Int) : Prop := ∃ j k : Nat, j < e ∧ l[j]? = some (k : Int) ∧ k < n ∧ lab k ≠ (a : Int) ∧ x = lab k
theorem waitE_full {g : List (List Int)} {lab : Nat → Int} {i a : Nat} {l : List Int} (hl : g[i]? = some l) (x : Int) : WaitE lab g.length a l l.length x ↔ ∃ k, Edge g i k ∧ lab k ≠ (a : Int) ∧ x = lab k := by
 constructor
 ·rintro ⟨j, k, _, h1, h2, h3, h4⟩
  exact ⟨k, ⟨l, hl, List.mem_of_getElem? h1, h2⟩, h3, h4⟩
 ·rintro ⟨k, ⟨l', h1, h2, h3⟩, h4, h5⟩
  rw [hl] at h1
  cases h1
  obtain ⟨j, hj, hjk⟩ := List.getElem_of_mem h2
  exact ⟨j, k, hj, by rw [List.getElem?_eq_getElem hj, hjk], h3, h4, h5⟩
theorem waitE_succ {lab : Nat → Int} {n a : Nat} {l : List Int} {e : Nat} {y : Int} (hy : l[e]? = some y) (x : Int) : WaitE lab n a l (e + 1) x ↔ WaitE lab n a l e x ∨ (∃ k : Nat, y = (k : Int) ∧ k < n ∧ lab k ≠ (a : Int) ∧ x = lab k) := by
 constructor
 ·rintro ⟨j, k, hj, h1, h2, h3, h4⟩
  rcases Nat.lt_or_ge j e with h | h
  ·exact .inl ⟨j, k, h, h1, h2, h3, h4⟩
  ·obtain rfl : j = e := by omega
   rw [hy] at h1
   cases h1
   exact .inr ⟨k, rfl, h2, h3, h4⟩
 ·rintro (⟨j, k, hj, h1, h2, h3, h4⟩ | ⟨k, rfl, h2, h3, h4⟩)
  ·exact ⟨j, k, by omega, h1, h2, h3, h4⟩
  ·exact ⟨e, k, by omega, hy, h2, h3, h4⟩
theorem memI_upd {lab : Nat → Int} {i a : Nat} (h : lab i = (a : Int)) : upd (memI lab i) a (memI lab i a ++ [i]) = memI lab (i + 1) := by
 funext b
 rw [memI_succ]
 by_cases e : b = a
 ·subst e; rw [upd_self, if_pos h]
 ·rw [upd_ne _ _ e, if_neg (fun h2 => e (by omega))]
structure Col (g : List (List Int)) (lab : Nat → Int) (w1 wr : World) (M Wt m : Nat) (i : Nat) (sf : Nat → SV) (wf : Nat → Option Nat) (ws : Nat → List Int) : Prop where
 mem : KMem w1 wr M Wt m sf wf (memI lab i) ws
 wt : ∀ a, a < m → ∀ x, x ∈ ws a ↔ WaitI g lab i a x
 nn : ∀ a, a < m → wf a = none → memI lab i a = []
structure Col2 (g : List (List Int)) (lab : Nat → Int) (w1 wr : World) (M Wt m : Nat) (i a : Nat) (l : List Int) (e : Nat) (sf : Nat → SV) (wf : Nat → Option Nat) (ws : Nat → List Int) : Prop where
 mem : KMem w1 wr M Wt m sf wf (memI lab (i + 1)) ws
 wt : ∀ b, b < m → ∀ x, x ∈ ws b ↔ WaitI g lab i b x ∨ (b = a ∧ WaitE lab g.length a l e x)
 nn : ∀ b, b < m → wf b = none → memI lab (i + 1) b = []
section
variable {g : List (List Int)} {lab : Nat → Int} {w1 wr w' : World} {M Wt m i a : Nat} {l : List Int} {e : Nat} {sf : Nat → SV} {wf : Nat → Option Nat} {ws : Nat → List Int}
theorem Col2.mod0 (h : Col2 g lab w1 wr M Wt m i a l e sf wf ws) (hm : Mod none_ wr w') : Col2 g lab w1 w' M Wt m i a l e sf wf ws := ⟨h.mem.mod0 hm, h.wt, h.nn⟩
theorem Col2.skip (h : Col2 g lab w1 wr M Wt m i a l e sf wf ws) {y : Int} (hx : l[e]? = some y) (hd : ∀ k : Nat, y = (k : Int) → k < g.length → lab k = (a : Int)) : Col2 g lab w1 wr M Wt m i a l (e + 1) sf wf ws := by
 refine ⟨h.mem, fun b hb x => ?_, h.nn⟩
 rw [h.wt b hb x, waitE_succ hx]
 constructor
 ·rintro (h1 | ⟨h1, h2⟩)
  ·exact .inl h1
  ·exact .inr ⟨h1, .inl h2⟩
 ·rintro (h1 | ⟨h1, h2 | ⟨k, e1, e2, e3, _⟩⟩)
  ·exact .inl h1
  ·exact .inr ⟨h1, h2⟩
  ·exact absurd (hd k e1 e2) e3
theorem Col2.put (h : Col2 g lab w1 wr M Wt m i a l e sf wf ws) (ham : a < m) {x0 k : Nat} (hwx : wf a = some x0) (hx : l[e]? = some (k : Int)) (hk : k < g.length) (hne : lab k ≠ (a : Int)) (hr : 0 ≤ lab k ∧ lab k < (m : Int))
  (hM : MapI w' 3 x0 (putI (lab k) (ws a))) (hm : Mod (· = x0) wr w') : Col2 g lab w1 w' M Wt m i a l (e + 1) sf wf (upd ws a (putI (lab k) (ws a))) := by
 obtain ⟨n1, n2⟩ := h.mem.nd a ham
 refine ⟨h.mem.turn ham hwx hM hm ⟨putI_nodup n1, fun y hy => ?_⟩, fun b hb x => ?_, h.nn⟩
 ·rcases mem_putI.1 hy with rfl | hy
  ·exact hr
  ·exact n2 y hy
 ·rw [waitE_succ hx]
  by_cases e1 : b = a
  ·subst e1
   rw [upd_self, mem_putI, h.wt b hb x]
   constructor
   ·rintro (h1 | h1 | ⟨h1, h2⟩)
    ·exact .inr ⟨rfl, .inr ⟨k, rfl, hk, hne, h1⟩⟩
    ·exact .inl h1
    ·exact .inr ⟨rfl, .inl h2⟩
   ·rintro (h1 | ⟨_, h1 | ⟨k', e1, _, _, e2⟩⟩)
    ·exact .inr (.inl h1)
    ·exact .inr (.inr ⟨rfl, h1⟩)
    ·obtain rfl : k' = k := by omega
     exact .inl e2
  ·rw [upd_ne _ _ e1, h.wt b hb x]
   constructor
   ·rintro (h1 | ⟨h1, _⟩)
    ·exact .inl h1
    ·exact absurd h1 e1
   ·rintro (h1 | ⟨h1, _⟩)
    ·exact .inl h1
    ·exact absurd h1 e1
theorem Col2.done (h : Col2 g lab w1 wr M Wt m i a l l.length sf wf ws) (hl : g[i]? = some l) (ha : lab i = (a : Int)) : Col g lab w1 wr M Wt m (i + 1) sf wf ws := by
 refine ⟨h.mem, fun b hb x => ?_, h.nn⟩
 rw [h.wt b hb x, waitI_succ, waitE_full hl]
 constructor
 ·rintro (h1 | ⟨rfl, h1⟩)
  ·exact .inl h1
  ·exact .inr ⟨ha, h1⟩
 ·rintro (h1 | ⟨h1, h2⟩)
  ·exact .inl h1
  ·obtain rfl : b = a := by omega
   exact .inr ⟨rfl, h2⟩
end
theorem _root_.Go.Proofs.YtfkfiokkjjnhiaaGreat.MapI.obj {w : World} {k : TypeId} {x : Nat} {L : List Int} (h : MapI w k x L) : ∃ es clock, w.heap[x]? = some (.map es clock) ∧ es.size = L.length := by
 obtain ⟨es, clock, h1, h2, h3, h4⟩ := h.tight
 refine ⟨es, clock, h1, ?_⟩
 have := congrArg Maps.size h4
 rw [size_setD] at this
 rw [this]; simp [Maps.size, length_sorted]
theorem OwG.mod {F : Nat → Prop} {w w' : World} {G : Option Addr} {m c : Nat} {ss : List SV} {g : List (List Int)} (h : OwG w G m c ss g) (hm : Mod F w w') (hG : ∀ k, fp G k → ¬ F k) (hs : ∀ (i : Nat) (s : SV) (l : List Int), ss[i]? = some s → RdI w s.a s.n l → 0 < s.n → ∀ k, fp s.a k → ¬ F k) : OwG w' G m c ss g :=
 ⟨Ow.mod h.1 hm hG, h.2.1, fun i s l h1 h2 => by
  obtain ⟨a1, a2, a3, a4⟩ := h.2.2 i s l h1 h2
  exact ⟨Rd.mod' a1 hm (hs i s l h1 a1), a2, a3, a4⟩⟩
theorem rdi_rowS {w : World} {A : Option Addr} {n : Nat} {l : List Int} (h : RdI w A n l) (hn : 0 < n) {M m : Nat} {t : TypeId} {sf : Nat → SV} (hb : Blk w M t (rowS m sf)) : ¬ fp A M := by
 obtain ⟨b, o, hA, hl, hc⟩ := rdi_get h hn
 rintro ⟨a, ha, rfl⟩
 rw [hA] at ha
 cases ha
 rw [hb.cell] at hc
 by_cases hi : o + 0 < m
 ·rw [rowS_get sf hi] at hc; cases hc
 ·rw [Array.getElem?_eq_none (by simp [rowS]; omega)] at hc; cases hc
theorem rdi_map {w : World} {A : Option Addr} {n : Nat} {l : List Int} (h : RdI w A n l) (hn : 0 < n) {k : TypeId} {x : Nat} {L : List Int} (hb : MapI w k x L) : ¬ fp A x := by
 obtain ⟨b, o, hA, hl, hc⟩ := rdi_get h hn
 rintro ⟨a, ha, rfl⟩
 rw [hA] at ha
 cases ha
 obtain ⟨es, clock, h1, _⟩ := hb.obj
 simp [World.cell?, h1] at hc
theorem KMem.modG {w0 w w' : World} {M Wt m : Nat} {sf : Nat → SV} {wf : Nat → Option Nat} {ls : Nat → List Nat} {ws : Nat → List Int} (h : KMem w0 w M Wt m sf wf ls ws) {G : Option Addr} {r d : Nat} {xs : List Value} (hO : Ow w 31 1 G r d xs) (hGM : ¬ fp G M) (hf : Fresh w0 G) (hm : Mod (fp G) w w') : KMem w0 w' M Wt m sf wf ls ws :=
 ⟨h.m0.app hf hm, h.fM, h.fW, h.bM.mod hm hGM, h.bW.mod hm (Ow.ne_blk hO h.bW (by decide)), fun a ha => Ow.mod (h.own a ha) hm (fun k hk => Ow.ne_ow (h.own a ha) hO (by decide) k hk), h.fr, h.dis, fun a x ha e => ⟨(h.mp a x ha e).1.mod hm (mapI_ow (h.mp a x ha e).1 hO), (h.mp a x ha e).2⟩, h.mdis, h.nil, h.nd⟩
def lsR (g : List (List Int)) (lab : Nat → Int) (R : List Nat) : Nat → List Nat := fun a => if a ∈ R then [] else memL g lab a
theorem lsR_snoc (g : List (List Int)) (lab : Nat → Int) (R : List Nat) (b0 : Nat) : upd (lsR g lab R) b0 [] = lsR g lab (R ++ [b0]) := by
 funext a
 unfold lsR
 by_cases e : a = b0
 ·subst e; rw [upd_self, if_pos (by simp)]
 ·rw [upd_ne _ _ e]
  by_cases h : a ∈ R
  ·rw [if_pos h, if_pos (by simp [h])]
  ·rw [if_neg h, if_neg (by simp [h, e])]
structure Rnd (g : List (List Int)) (lab : Nat → Int) (w1 wr : World) (M Wt m : Nat) (R : List Nat) (sf : Nat → SV) (wf : Nat → Option Nat) (ws : Nat → List Int) : Prop where
 mem : KMem w1 wr M Wt m sf wf (lsR g lab R) ws
 nl : ∀ a, a < m → a ∈ R → sf a = ⟨none, 0, 0⟩
 wt : ∀ a, a < m → ∀ x, x ∈ ws a ↔ WaitI g lab g.length a x ∧ ¬ ∃ b ∈ R, x = ((b : Nat) : Int)
 full : ∀ a, a < m → ∃ x, wf a = some x
 out : Out g lab m R
theorem Rnd.start {g : List (List Int)} {lab : Nat → Int} {w1 wr : World} {M Wt m : Nat} {sf : Nat → SV} {wf : Nat → Option Nat} {ws : Nat → List Int} (hL : Lab g lab m) (h : Col g lab w1 wr M Wt m g.length sf wf ws) : Rnd g lab w1 wr M Wt m [] sf wf ws := by
 have e : memI lab g.length = lsR g lab [] := by funext a; simp [lsR, memI_full]
 refine ⟨by rw [← e]; exact h.mem, fun a _ ha => (by cases ha), fun a ha x => ?_, fun a ha => ?_, Out.zero _ _ _⟩
 ·rw [h.wt a ha x]
  exact ⟨fun h => ⟨h, fun ⟨b, hb, _⟩ => by cases hb⟩, fun h => h.1⟩
 ·cases hw : wf a with
  | some x => exact ⟨x, rfl⟩
  | none =>
   have h1 := h.nn a ha hw
   rw [memI_full] at h1
   obtain ⟨i, hi⟩ := memL_ne hL ha
   rw [h1] at hi
   cases hi
theorem Rnd.next {g : List (List Int)} {lab : Nat → Int} {w1 wr w' : World} {M Wt m : Nat} {R : List Nat} {sf : Nat → SV} {wf : Nat → Option Nat} {ws ws' : Nat → List Int} {b0 : Nat} (h : Rnd g lab w1 wr M Wt m R sf wf ws)
  (hk : KMem w1 w' M Wt m (upd sf b0 ⟨none, 0, 0⟩) wf (upd (lsR g lab R) b0 []) ws') (hw : ∀ b, b < m → ws' b = delI (b0 : Int) (ws b)) (ho : Out g lab m (R ++ [b0])) : Rnd g lab w1 w' M Wt m (R ++ [b0]) (upd sf b0 ⟨none, 0, 0⟩) wf ws' := by
 refine ⟨by rw [← lsR_snoc]; exact hk, fun a ha haR => ?_, fun a ha x => ?_, h.full, ho⟩
 ·by_cases e : a = b0
  ·subst e; exact upd_self _ _ _
  ·rw [upd_ne _ _ e]
   refine h.nl a ha ?_
   rcases List.mem_append.1 haR with h1 | h1
   ·exact h1
   ·simp at h1; exact absurd h1 e
 ·rw [hw a ha, mem_delI, h.wt a ha x]
  constructor
  ·rintro ⟨⟨h1, h2⟩, h3⟩
   refine ⟨h1, fun ⟨b, hb, e⟩ => ?_⟩
   rcases List.mem_append.1 hb with hb | hb
   ·exact h2 ⟨b, hb, e⟩
   ·simp at hb; subst hb; exact h3 e
  ·rintro ⟨h1, h2⟩
   exact ⟨⟨h1, fun ⟨b, hb, e⟩ => h2 ⟨b, List.mem_append_left _ hb, e⟩⟩, fun e => h2 ⟨b0, by simp, e⟩⟩
def Best (g : List (List Int)) (lab : Nat → Int) (m : Nat) (R : List Nat) (a : Nat) (v : Value) : Prop :=
 (v = .int .i64 (-1) ∧ ∀ b, b < a → ¬ Cand g lab m R b) ∨
 (∃ b0 i0 : Nat, v = .int .i64 (b0 : Int) ∧ b0 < a ∧ Cand g lab m R b0 ∧ (memL g lab b0).head? = some i0 ∧ ∀ b, b < a → Cand g lab m R b → ∀ j, (memL g lab b).head? = some j → i0 ≤ j)
theorem Best.no {g : List (List Int)} {lab : Nat → Int} {m : Nat} {R : List Nat} {a : Nat} {v : Value} (h : Best g lab m R a v) (hn : ¬ Cand g lab m R a) : Best g lab m R (a + 1) v := by
 rcases h with ⟨h1, h2⟩ | ⟨b0, i0, h1, h2, h3, h4, h5⟩
 ·refine .inl ⟨h1, fun b hb => ?_⟩
  by_cases e : b = a
  ·subst e; exact hn
  ·exact h2 b (by omega)
 ·refine .inr ⟨b0, i0, h1, by omega, h3, h4, fun b hb hc j hj => ?_⟩
  by_cases e : b = a
  ·subst e; exact absurd hc hn
  ·exact h5 b (by omega) hc j hj
theorem Best.first {g : List (List Int)} {lab : Nat → Int} {m : Nat} {R : List Nat} {a i : Nat} (h : ∀ b, b < a → ¬ Cand g lab m R b) (hc : Cand g lab m R a) (hi : (memL g lab a).head? = some i) : Best g lab m R (a + 1) (.int .i64 (a : Int)) := by
 refine .inr ⟨a, i, rfl, by omega, hc, hi, fun b hb hcb j hj => ?_⟩
 by_cases e : b = a
 ·subst e
  rw [hi] at hj
  cases hj
  exact Nat.le_refl _
 ·exact absurd hcb (h b (by omega))
theorem Best.better {g : List (List Int)} {lab : Nat → Int} {m : Nat} {R : List Nat} {a i b0 i0 : Nat} (h : ∀ b, b < a → Cand g lab m R b → ∀ j, (memL g lab b).head? = some j → i0 ≤ j) (hc : Cand g lab m R a) (hi : (memL g lab a).head? = some i) (hlt : i < i0) : Best g lab m R (a + 1) (.int .i64 (a : Int)) := by
 refine .inr ⟨a, i, rfl, by omega, hc, hi, fun b hb hcb j hj => ?_⟩
 by_cases e : b = a
 ·subst e
  rw [hi] at hj
  cases hj
  exact Nat.le_refl _
 ·have := h b (by omega) hcb j hj
  omega
theorem Best.worse {g : List (List Int)} {lab : Nat → Int} {m : Nat} {R : List Nat} {a i b0 i0 : Nat} (h2 : b0 < a) (h3 : Cand g lab m R b0) (h4 : (memL g lab b0).head? = some i0) (h5 : ∀ b, b < a → Cand g lab m R b → ∀ j, (memL g lab b).head? = some j → i0 ≤ j) (hi : (memL g lab a).head? = some i) (hlt : ¬ i < i0) : Best g lab m R (a + 1) (.int .i64 (b0 : Int)) := by
 refine .inr ⟨b0, i0, rfl, by omega, h3, h4, fun b hb hc j hj => ?_⟩
 by_cases e : b = a
 ·subst e
  rw [hi] at hj
  cases hj
  omega
 ·exact h5 b (by omega) hc j hj
theorem zs_head {l : List Nat} {i : Nat} (h : l.head? = some i) : (zs l)[0]? = some (i : Int) := by
 cases l with
 | nil => cases h
 | cons x l => injection h with h; subst h; rfl
theorem Rnd.row {g : List (List Int)} {lab : Nat → Int} {w1 wr : World} {M Wt m : Nat} {R : List Nat} {sf : Nat → SV} {wf : Nat → Option Nat} {ws : Nat → List Int} (h : Rnd g lab w1 wr M Wt m R sf wf ws) (hL : Lab g lab m) {a : Nat} (ha : a < m) (haR : a ∉ R) :
  ∃ gm i n' c', (memL g lab a).head? = some i ∧ sf a = ⟨some ⟨gm, 0, none⟩, n' + 1, c'⟩ ∧ wr.cell? ⟨gm, 0, none⟩ = some (.int .i64 (i : Int)) := by
 obtain ⟨i, hi⟩ := memL_ne hL ha
 have ho := h.mem.own a ha
 have e : lsR g lab R a = memL g lab a := by unfold lsR; rw [if_neg haR]
 rw [e] at ho
 have hl := ho.len
 rw [zs_len] at hl
 have hz := zs_head hi
 have hpos : 0 < (sf a).n := by
  rw [← hl]
  cases hm : memL g lab a with
  | nil => rw [hm] at hi; cases hi
  | cons x l => simp
 obtain ⟨gm, cur, hA, hb, _⟩ := Ow.form ho hpos
 have hc := Ow.cell_ ho hA 0 (by omega)
 refine ⟨gm, i, (sf a).n - 1, (sf a).c, hi, ?_, ?_⟩
 ·rw [← hA, show (sf a).n - 1 + 1 = (sf a).n by omega]
 ·rw [hc]
  unfold ivs
  rw [List.getElem?_map, hz]; rfl
def KnPost (g : List (List Int)) (w : World) (e : Ending) (w' : World) : Prop := ∃ ks : List (List Nat), KSeq g (fun _ => False) ks ∧ ∃ G c ss, e = .returned (.slice G ks.length c) ∧ OwG w' G ks.length c ss (ks.map zs) ∧ Fresh w G ∧ Mod none_ w w'
set_option maxRecDepth 100000
theorem knots_ok (w : World) (A : Option Addr) (n c : Nat) (ss : List SV) (g : List (List Int)) (hg : RdG w A n ss g) (hn : n ≤ 100000) :
  Calls Tryz.prog 163 #[.slice A n c] w (KnPost g w) := by
 have kN := zH (numbers_ok w A n c ss g hg (by omega))
 have hgl := hg.len
 replace hg := zH hg
 go_enter Tryz.func163, Tryz.ntmps163
 go_wp2_with fail
 with_reducible refine kN.out.mono ?_
 rintro e w1 ⟨K, lab, m, rfl, hK, hL, hmn, hm1⟩
 dsimp only
 have hmS := fun W => make_run (P := Tryz.prog) W 165 31 _ 24 m Tryz.underlying165 slginfo rfl (by omega) (by omega)
 have hmM := fun W => make_run (P := Tryz.prog) W 281 93 _ 8 m Tryz.underlying281 mapinfo rfl (by omega) (by omega)
 have hc0 : Col g lab w1 ((w1.alloc (.cells (madeCells #[.slice none 0 0] m) 31)).alloc (.cells (madeCells #[.map none] m) 93)) w1.heap.size (w1.heap.size + 1) m 0 (fun _ => ⟨none, 0, 0⟩) (fun _ => none) (fun _ => []) := by
  refine ⟨⟨((Mod.refl none_ w1).alloc _).alloc _, Nat.le_refl _, by omega, ?_, ?_, fun a _ => Ow.nil _ _ _, fun a _ x hx => (by cases hx), fun a b _ _ _ k hk => (by obtain ⟨x, hx, _⟩ := hk; cases hx), fun a x _ h => (by cases h), fun a b x y _ _ _ h => (by cases h), fun _ _ _ => rfl, fun a _ => ⟨List.nodup_nil, fun x hx => by cases hx⟩⟩, fun a _ x => ⟨fun h => (by cases h), fun ⟨v, k, hv, _⟩ => absurd hv (Nat.not_lt_zero v)⟩, fun a _ _ => rfl⟩
  ·rw [made_rowS]; exact (Blk.new w1 _ _).alloc _
  ·have := Blk.new (w1.alloc (.cells (madeCells #[.slice none 0 0] m) 31)) 93 (madeCells #[.map none] m)
   rw [made_rowM] at this ⊢
   simpa using this
 have hlab := hL.lt
 rw [hgl] at hlab
 replace hK := zH hK
 replace hL := zH hL
 replace hm1 := zH hm1
 replace hc0 := zH hc0
 replace hlab := zH hlab
 replace hgl := zH hgl
 go_wp2_with fail
 go_loopg [28] n (fun k v wr => ∃ i sf wf ws, v = .int .i64 (i : Nat) ∧ i + k = n ∧ Col g lab w1 wr w1.heap.size (w1.heap.size + 1) m i sf wf ws)
 case atStart => exact ⟨0, _, _, _, rfl, by omega, hc0.out⟩
 case round =>
  obtain ⟨i, sf, wf, ws, rfl, hik, hcol⟩ := hrel
  by_cases hlt : i < n
  ·obtain ⟨b, o, B, kk, cc, l, hA, hc10, hgi, hrd, hkc, hkb⟩ := RdG.get (hg.out.mod0 hm1.out) hlt
   subst hA
   have hc1 := hcol.mem.m0.cell_some hc10 (fun h => h)
   clear hc10
   have hll := hrd.len
   obtain ⟨a, ha, ham⟩ : ∃ a : Nat, lab i = (a : Int) ∧ a < m := by have := hlab.out i hlt; exact ⟨(lab i).toNat, by omega, by omega⟩
   have xK := (hK.out.mod hcol.mem.m0 (fun h => h)).cell_ (rowI_get lab hlt)
   rw [ha] at xK
   have xM := hcol.mem.bM.cell_ (rowS_get sf ham)
   have zM := hcol.mem.bM.frozen a
   have hOa := hcol.mem.own a ham
   have hla := hOa.len
   have hsl : (sf a).n ≤ 1000000 := by
    have h1 : (memI lab i a).length ≤ i := by unfold memI; have := List.length_filter_le (fun v => decide (lab v = (a : Int))) (List.range i); rwa [List.length_range] at this
    rw [zs_len] at hla
    omega
   have hmk := fun W => run_makeMap (P := Tryz.prog) 93 W
   have hnx := zH (fun (o : Obj) W' (hm : Mod (fp (sf a).a) (wr.alloc o) W') =>
    (show W'.cell? ⟨w1.heap.size, a, none⟩ = some (.slice (sf a).a (sf a).n (sf a).c) ∧ W'.frozen? ⟨w1.heap.size, a, none⟩ = false ∧ W'.cell? ⟨w1.heap.size + 1, a, none⟩ = some (.map (wf a)) ∧ W'.frozen? ⟨w1.heap.size + 1, a, none⟩ = false ∧ w1.heap.size + 1 < W'.heap.size from by
     have h1 := (hcol.mem.bM.alloc o).mod hm (Ow.ne_blk (hcol.mem.own a ham) hcol.mem.bM (by decide))
     have h2 := (hcol.mem.bW.alloc o).mod hm (Ow.ne_blk (hcol.mem.own a ham) hcol.mem.bW (by decide))
     exact ⟨h1.cell_ (rowS_get sf ham), h1.frozen a, h2.cell_ (rowM_get wf ham), h2.frozen a, h2.lt⟩))
   have hkm := zH (fun (o : Obj) W' A' c' (hO : OwZ W' A' ((sf a).n + 1) c' (zs (memI lab i a) ++ [(i : Int)])) (hm : Mod (fp (sf a).a) (wr.alloc o) W') (hA : A' = (sf a).a ∨ A' = some ⟨(wr.alloc o).heap.size, 0, none⟩) =>
    (show KMem w1 (W'.setCell ⟨w1.heap.size, a, none⟩ (.slice A' ((sf a).n + 1) c')) w1.heap.size (w1.heap.size + 1) m (upd sf a ⟨A', (sf a).n + 1, c'⟩) wf (memI lab (i + 1)) ws from by
     have := (hcol.mem.mod0 ((Mod.refl none_ wr).alloc o)).app ham hO hm hA
     rwa [memI_upd ha] at this))
   obtain ⟨sa, sn, sc, hsa⟩ : ∃ x y z, sf a = ⟨x, y, z⟩ := ⟨_, _, _, rfl⟩
   rw [hsa] at xM hOa hsl hnx hkm
   dsimp only at xM hOa hsl hnx hkm
   replace hcol := zH hcol
   replace hgi := zH hgi
   replace hrd := zH hrd
   replace hkc := zH hkc
   replace hll := zH hll
   replace hOa := zH hOa
   replace hla := zH hla
   replace hsa := zH hsa
   rcases hwa : wf a with _ | x0
   focus
    rw [hwa] at hnx
    have hq0 : ∀ W, (binOp .eql 93 (.map none) (.map none)).run Tryz.prog W = .ok (.bool true) W := fun _ => rfl
    go_wp2_with (at_builtin; go_loud (refine appZ rfl (.tmp 42) (.tmp 44) rfl rfl (Ow.mod0 hOa.out ((Mod.refl none_ _).alloc _)) rfl (rdi_one _ _ (i : Int)) (by omega) ?_; intro A' c' w3 ho3 hm3 hA3; obtain ⟨r1, r2, r3, r4, r5⟩ := hnx.out _ _ hm3; replace hkm := zH (hkm.out _ _ _ _ ho3 hm3 hA3); replace ho3 := zH ho3; replace hm3 := zH hm3; replace hA3 := zH hA3))
    have hC2 : Hid (∃ sf' wf' x0, wf' a = some x0 ∧ Col2 g lab w1 (((w3.setCell ⟨w1.heap.size, a, none⟩ (.slice A' (sn + 1) c')).setCell ⟨w1.heap.size + 1, a, none⟩ (.map (some w3.heap.size))).alloc (.map #[] 0)) w1.heap.size (w1.heap.size + 1) m i a l 0 sf' wf' ws) := zH (by
     have h1 := hkm.out.mkm ham hwa
     have e1 : (w3.setCell ⟨w1.heap.size, a, none⟩ (.slice A' (sn + 1) c')).heap.size = w3.heap.size := by simp [World.setCell]
     rw [e1, World.setCell_alloc_past _ _ _ _ (by rw [e1]; exact r5)] at h1
     refine ⟨_, _, _, upd_self _ _ _, h1, fun b hb x => ?_, fun b hb e => ?_⟩
     ·rw [hcol.out.wt b hb x]
      exact ⟨.inl, fun h => h.elim id fun ⟨_, j, k, hj, _⟩ => absurd hj (Nat.not_lt_zero j)⟩
     ·by_cases e2 : b = a
      ·subst e2; rw [upd_self] at e; cases e
      ·rw [upd_ne _ _ e2] at e
       rw [memI_succ, if_neg (fun h2 => e2 (by rw [ha] at h2; omega))]
       exact hcol.out.nn b hb e)
   rotate_left
   focus
    rw [hwa] at hnx
    have hq0 : ∀ W, (binOp .eql 93 (.map (some x0)) (.map none)).run Tryz.prog W = .ok (.bool false) W := fun _ => rfl
    go_wp2_with (at_builtin; go_loud (refine appZ rfl (.tmp 42) (.tmp 44) rfl rfl (Ow.mod0 hOa.out ((Mod.refl none_ _).alloc _)) rfl (rdi_one _ _ (i : Int)) (by omega) ?_; intro A' c' w3 ho3 hm3 hA3; obtain ⟨r1, r2, r3, r4, r5⟩ := hnx.out _ _ hm3; replace hkm := zH (hkm.out _ _ _ _ ho3 hm3 hA3); replace ho3 := zH ho3; replace hm3 := zH hm3; replace hA3 := zH hA3))
    have hC2 : Hid (∃ sf' wf' x0, wf' a = some x0 ∧ Col2 g lab w1 (w3.setCell ⟨w1.heap.size, a, none⟩ (.slice A' (sn + 1) c')) w1.heap.size (w1.heap.size + 1) m i a l 0 sf' wf' ws) := zH (by
     refine ⟨_, wf, x0, hwa, hkm.out, fun b hb x => ?_, fun b hb e => ?_⟩
     ·rw [hcol.out.wt b hb x]
      exact ⟨.inl, fun h => h.elim id fun ⟨_, j, k, hj, _⟩ => absurd hj (Nat.not_lt_zero j)⟩
     ·have e2 : b ≠ a := fun e2 => by subst e2; rw [hwa] at e; cases e
      rw [memI_succ, if_neg (fun h2 => e2 (by rw [ha] at h2; omega))]
      exact hcol.out.nn b hb e)
   all_goals
    clear hnx hkm ho3 hm3 hA3
    obtain ⟨sf', wf', x0', hwx, hC2⟩ := hC2.out
    go_loopg [58] kk (fun k2 v wr => ∃ e ws', v = .int .i64 (e : Nat) ∧ e + k2 = kk ∧ Col2 g lab w1 wr w1.heap.size (w1.heap.size + 1) m i a l e sf' wf' ws')
    case atStart => exact ⟨0, ws, rfl, by omega, hC2⟩
    case round =>
     obtain ⟨e, ws', rfl, hek, hc2⟩ := hrel
     by_cases hle : e < kk
     ·obtain ⟨b2, o2, hB2, hxl, hx0⟩ := rdi_get (Rd.mod0 hrd.out hc2.mem.m0) hle
      subst hB2
      have hx : l[e]? = some l[e] := List.getElem?_eq_getElem hxl
      generalize l[e] = x at hx hx0
      by_cases hneg : x < 0
      ·have hsk := hc2.skip hx (fun k h1 _ => by omega)
       have hd1 : ¬ (0 ≤ x) := by omega
       replace hc2 := zH hc2
       replace hx := zH hx
       replace hsk := zH hsk
       go_wp2_with fail
       go_roundg (gk - 1)
       case measure => omega
       case rel => exact ⟨e + 1, ws', by go_num, by omega, hsk.out⟩
      ·obtain ⟨k, rfl⟩ : ∃ k : Nat, x = (k : Int) := ⟨x.toNat, by omega⟩
       have hd1 : (0 : Int) ≤ (k : Int) := by omega
       by_cases hkn : k < n
       ·have hd2 : (k : Int) < (n : Int) := by omega
        have xk := (hK.out.mod hc2.mem.m0 (fun h => h)).cell_ (rowI_get lab hkn)
        have hlk := hlab.out k hkn
        by_cases hka : lab k = (a : Int)
        ·have hsk := hc2.skip hx (fun j h1 _ => by obtain rfl : j = k := (by omega); exact hka)
         rw [hka] at xk
         replace hc2 := zH hc2
         replace hx := zH hx
         replace hsk := zH hsk
         replace hka := zH hka
         go_wp2_with fail
         go_roundg (gk - 1)
         case measure => omega
         case rel => exact ⟨e + 1, ws', by go_num, by omega, hsk.out⟩
        ·have hd3 : (lab k != (a : Int)) = true := by simpa using hka
         have xW := hc2.mem.bW.cell_ (rowM_get wf' ham)
         rw [hwx] at xW
         have hwl := hc2.mem.wlen ham
         obtain ⟨w5, hrun, hM5, hm5, _⟩ := mapI_store_run 93 3 4 Tryz.underlying93 Tryz.underlying3 x0' (ws' a) (((hc2.mem.mp a x0' ham hwx).1).mod ((Mod.refl none_ wr).drew) (fun h => h)) (by unfold maxLen; omega) (lab k) (by simp [Lit.wf, IntKind.min, IntKind.max, IntKind.signed, IntKind.bits]; omega)
         have hp2 := (hc2.mod0 ((Mod.refl none_ wr).drew)).put ham hwx hx (by rw [hgl.out]; exact hkn) hka hlk hM5 hm5
         generalize lab k = lk at *
         replace hc2 := zH hc2
         replace hx := zH hx
         replace hp2 := zH hp2
         replace hka := zH hka
         replace hM5 := zH hM5
         replace hm5 := zH hm5
         replace hwx := zH hwx
         go_wp2_with fail
         go_region
         go_wp2_with fail
         go_roundg (gk - 1)
         case measure => omega
         case rel => exact ⟨e + 1, _, by go_num, by omega, hp2.out⟩
       ·have hd2 : ¬ ((k : Int) < (n : Int)) := by omega
        have hsk := hc2.skip hx (fun j h1 h2 => by rw [hgl.out] at h2; omega)
        replace hc2 := zH hc2
        replace hx := zH hx
        replace hsk := zH hsk
        go_wp2_with fail
        go_roundg (gk - 1)
        case measure => omega
        case rel => exact ⟨e + 1, ws', by go_num, by omega, hsk.out⟩
     ·obtain rfl : e = kk := by omega
      have hdn : Hid (Col g lab w1 wr w1.heap.size (w1.heap.size + 1) m (i + 1) sf' wf' ws') := zH (by
       refine Col2.done (l := l) ?_ hgi.out ha
       rw [hll.out]; exact hc2)
      replace hc2 := zH hc2
      go_wp2_with fail
      go_roundg (n - (i + 1))
      case measure => omega
      case rel => exact ⟨i + 1, sf', wf', ws', by go_num, by omega, hdn.out⟩
  ·obtain rfl : i = n := by omega
   have hR0 := Rnd.start hL.out (by rw [hgl.out]; exact hcol)
   obtain ⟨w2, hw2⟩ : ∃ w2, w2 = wr := ⟨_, rfl⟩
   have hM2 : w1.heap.size < w2.heap.size := by rw [hw2]; exact hcol.mem.bM.lt
   clear hcol
   replace hR0 := zH hR0
   replace hw2 := zH hw2
   go_wp2_with fail
   go_loopg [12, 89] m (fun k v12 v wr => ∃ R sf ws G d ss, v = .int .i64 (R.length : Nat) ∧ v12 = .slice G R.length d ∧ R.length + k = m ∧ Rnd g lab w1 wr w1.heap.size (w1.heap.size + 1) m R sf wf ws ∧ OwG wr G R.length d ss (R.map fun a => zs (memL g lab a)) ∧ Fresh w2 G ∧ w2.heap.size ≤ wr.heap.size)
   case atStart => exact ⟨[], sf, ws, none, 0, [], rfl, rfl, by simp, hR0.out, OwG.nil _, fun a ha => (by cases ha), Nat.le_of_eq (by rw [hw2.out])⟩
   case round =>
    obtain ⟨R, sf, ws, G, d, ss', rfl, rfl, hRk, hR, hO, hfG, hsz2⟩ := hrel
    by_cases hlt2 : R.length < m
    ·generalize hRl : R.length = r at *
     replace hR := zH hR
     replace hO := zH hO
     replace hfG := zH hfG
     replace hRl := zH hRl
     replace hsz2 := zH hsz2
     go_wp2_with fail
     go_loopg [13, 93] m (fun k v13 v w3 => ∃ a j, v = .int .i64 (a : Nat) ∧ a + k = m ∧ Best g lab m R a v13 ∧ w3 = wr.drewN j)
     case atStart => exact ⟨0, 0, rfl, by omega, .inl ⟨rfl, fun b hb => absurd hb (Nat.not_lt_zero b)⟩, rfl⟩
     case round =>
      obtain ⟨a, j, rfl, hak, hbe, rfl⟩ := hrel
      have hq0 : ∀ W, (binOp .neq 31 (.slice none 0 0) (.slice none 0 0)).run Tryz.prog W = .ok (.bool false) W := fun _ => rfl
      have hq1 : ∀ (p : Addr) (n c : Nat) W, (binOp .neq 31 (.slice (some p) n c) (.slice none 0 0)).run Tryz.prog W = .ok (.bool true) W := fun _ _ _ _ => rfl
      by_cases ham : a < m
      ·have xM := hR.out.mem.bM.cell_ (rowS_get sf ham)
       have xW := hR.out.mem.bW.cell_ (rowM_get wf ham)
       by_cases haR : a ∈ R
       ·have hno := hbe.no (fun hc => hc.2.1 haR)
        rw [hR.out.nl a ham haR] at xM
        dsimp only at xM
        replace hbe := zH hbe
        replace hno := zH hno
        replace haR := zH haR
        go_wp2_with (go_quiet (fail))
        go_roundg (gk - 1)
        case measure => omega
        case rel => exact ⟨a + 1, _, by go_num, by omega, hno.out, rfl⟩
       ·obtain ⟨gm, i1, n', c', hh, hsa, hcm⟩ := hR.out.row hL.out ham haR
        obtain ⟨x, hx⟩ := hR.out.full a ham
        obtain ⟨es, clock, hob, hes⟩ := (hR.out.mem.mp a x ham hx).1.obj
        have hgo : ∀ k, (getObj x).run Tryz.prog (wr.drewN k) = .ok (.map es clock) (wr.drewN k) := fun k => MapKept.run_getObj_map (P := Tryz.prog) (w := wr.drewN k) hob
        obtain ⟨z, hz⟩ : ∃ z : Int, z = (es.size : Int) := ⟨_, rfl⟩
        have hgl2 : ∀ k, (Builtin.len_ #[93] 3 #[.map (some x)]).run Tryz.prog (wr.drewN k) = .ok (.int .i64 z) (wr.drewN k) := fun k => by
         simp [go_sem, Builtin.len_, hgo k, hz]
        clear hgo
        rw [hsa] at xM
        rw [hx] at xW
        dsimp only at xM
        have hcd := cand_iff ham haR (hR.out.wt a ham)
        by_cases hwe : ws a = []
        ·have hca := hcd.1 hwe
         have hz0 : z = 0 := by rw [hz, hes, hwe]; rfl
         subst hz0
         have hq2 : ∀ (b0 : Nat), ((b0 : Int) == -1) = false := fun b0 => by simp
         rcases hbe with ⟨rfl, hb2⟩ | ⟨b0, i0, rfl, hb2, hb3, hb4, hb5⟩
         ·have hno := Best.first hb2 hca hh
          replace hno := zH hno
          replace haR := zH haR
          replace hh := zH hh
          replace hsa := zH hsa
          replace hx := zH hx
          replace hcd := zH hcd
          replace hwe := zH hwe
          replace hca := zH hca
          replace hb2 := zH hb2
          replace hz := zH hz
          go_wp2_with (go_quiet (fail))
          go_roundg (gk - 1)
          case measure => omega
          case rel => exact ⟨a + 1, _, by go_num, by omega, hno.out, rfl⟩
         ·obtain ⟨gb, i0', nb, cb, hh0, hsb, hcb⟩ := hR.out.row hL.out (show b0 < m by omega) hb3.2.1
          obtain rfl : i0' = i0 := by rw [hb4] at hh0; cases hh0; rfl
          have xB := hR.out.mem.bM.cell_ (rowS_get sf (show b0 < m by omega))
          rw [hsb] at xB
          dsimp only at xB
          have hq3 := hq2 b0
          clear hq2
          by_cases hii : i1 < i0'
          ·have hno := Best.better (b0 := b0) hb5 hca hh hii
           have hd5 : decide ((i1 : Int) < (i0' : Int)) = true := by simp; omega
           have hbm : b0 < m := by omega
           replace hno := zH hno
           replace haR := zH haR
           replace hh := zH hh
           replace hsa := zH hsa
           replace hx := zH hx
           replace hcd := zH hcd
           replace hwe := zH hwe
           replace hca := zH hca
           replace hb2 := zH hb2
           replace hb3 := zH hb3
           replace hb4 := zH hb4
           replace hb5 := zH hb5
           replace hz := zH hz
           replace hsb := zH hsb
           replace hh0 := zH hh0
           go_wp2_with (go_quiet (fail))
           go_roundg (gk - 1)
           case measure => omega
           case rel => exact ⟨a + 1, _, by go_num, by omega, hno.out, rfl⟩
          ·have hno := Best.worse hb2 hb3 hb4 hb5 hh hii
           have hd5 : decide ((i1 : Int) < (i0' : Int)) = false := by simp; omega
           have hbm : b0 < m := by omega
           replace hno := zH hno
           replace haR := zH haR
           replace hh := zH hh
           replace hsa := zH hsa
           replace hx := zH hx
           replace hcd := zH hcd
           replace hwe := zH hwe
           replace hca := zH hca
           replace hb2 := zH hb2
           replace hb3 := zH hb3
           replace hb4 := zH hb4
           replace hb5 := zH hb5
           replace hz := zH hz
           replace hsb := zH hsb
           replace hh0 := zH hh0
           go_wp2_with (go_quiet (fail))
           go_roundg (gk - 1)
           case measure => omega
           case rel => exact ⟨a + 1, _, by go_num, by omega, hno.out, rfl⟩
        ·have hno := hbe.no (fun hc => hwe (hcd.2 hc))
         have hd0 : (z == 0) = false := by
          have : z ≠ 0 := fun e => hwe (List.eq_nil_of_length_eq_zero (by rw [← hes]; omega))
          simpa using this
         replace hno := zH hno
         replace haR := zH haR
         replace hh := zH hh
         replace hsa := zH hsa
         replace hx := zH hx
         replace hcd := zH hcd
         replace hwe := zH hwe
         replace hbe := zH hbe
         replace hz := zH hz
         go_wp2_with (go_quiet (fail))
         go_roundg (gk - 1)
         case measure => omega
         case rel => exact ⟨a + 1, _, by go_num, by omega, hno.out, rfl⟩
      ·obtain rfl : a = m := by omega
       obtain ⟨ca, hca⟩ := Out.more hL.out hR.out.out (by rw [hRl.out]; exact hlt2)
       rcases hbe with ⟨_, hb2⟩ | ⟨b0, i0, rfl, hb2, hb3, hb4, hb5⟩
       ·exact absurd hca (hb2 ca hca.1)
       ·obtain ⟨gb, i0', nb, cb, hh0, hsb, hcb⟩ := hR.out.row hL.out hb2 hb3.2.1
        obtain rfl : i0' = i0 := by rw [hb4] at hh0; cases hh0; rfl
        have xB := hR.out.mem.bM.cell_ (rowS_get sf hb2)
        have zB := hR.out.mem.bM.frozen b0
        have gB := hR.out.mem.bM.lt
        rw [hsb] at xB
        dsimp only at xB
        have hnx := hR.out.out.next hL.out hb3 hb4 (fun b j hc hj => hb5 b hc.1 hc j hj)
        have hmA : Mod none_ wr ((wr.drewN j).alloc (.cells #[.slice (some ⟨gb, 0, none⟩) (nb + 1) cb] 31)) := ((Mod.refl none_ wr).drewN j).alloc _
        have hO1 := hO.out.mod0 hmA
        have hGM : ¬ fp G w1.heap.size := fun ⟨x, hx, e⟩ => by have := hfG.out x hx; omega
        have hw12 : w1.heap.size ≤ w2.heap.size := by omega
        have hk1 := hR.out.mem.mod0 hmA
        have hrb : RdI ((wr.drewN j).alloc (.cells #[.slice (some ⟨gb, 0, none⟩) (nb + 1) cb] 31)) (some ⟨gb, 0, none⟩) (nb + 1) (zs (memL g lab b0)) := by
         have := Ow.rd (hk1.own b0 hb2)
         rw [hsb] at this
         unfold lsR at this
         rw [if_neg hb3.2.1] at this
         exact this
        have hrc : nb + 1 ≤ cb := by have := (hk1.own b0 hb2).2.1; rw [hsb] at this; exact this
        have hrl : nb + 1 ≤ 140737488355328 := by
         have h1 := hrb.len
         rw [zs_len] at h1
         have h2 : (memL g lab b0).length ≤ g.length := by unfold memL; have := List.length_filter_le (fun v => decide (lab v = (b0 : Int))) (List.range g.length); rwa [List.length_range] at this
         rw [hgl.out] at h2
         omega
        have hrg : ∀ k, fp (some ⟨gb, 0, none⟩) k → ¬ fp G k := by
         have := Ow.ne_ow (hk1.own b0 hb2) hO1.1 (by decide)
         rw [hsb] at this
         exact this
        have hnx5 := zH (fun G2 d2 w5 (ho5 : Ow w5 31 1 G2 (r + 1) d2 ((ss' ++ [SV.mk (some ⟨gb, 0, none⟩) (nb + 1) cb]).map SV.v)) (hm5 : Mod (fp G) ((wr.drewN j).alloc (.cells #[.slice (some ⟨gb, 0, none⟩) (nb + 1) cb] 31)) w5) (hG5 : G2 = G ∨ G2 = some ⟨((wr.drewN j).alloc (.cells #[.slice (some ⟨gb, 0, none⟩) (nb + 1) cb] 31)).heap.size, 0, none⟩) =>
         (show w5.cell? ⟨w1.heap.size, b0, none⟩ = some (.slice (some ⟨gb, 0, none⟩) (nb + 1) cb) ∧ w5.frozen? ⟨w1.heap.size, b0, none⟩ = false ∧ Fresh w2 G2 ∧ KMem w1 (w5.setCell ⟨w1.heap.size, b0, none⟩ (.slice none 0 0)) w1.heap.size (w1.heap.size + 1) a (upd sf b0 ⟨none, 0, 0⟩) wf (upd (lsR g lab R) b0 []) ws ∧
           OwG (w5.setCell ⟨w1.heap.size, b0, none⟩ (.slice none 0 0)) G2 (r + 1) d2 (ss' ++ [SV.mk (some ⟨gb, 0, none⟩) (nb + 1) cb]) ((R ++ [b0]).map fun a => zs (memL g lab a)) from by
          have hf2 : Fresh w2 G2 := Fresh.app hfG.out (by have := hmA.size; have := hsz2.out; omega) hG5
          have hk5 := hk1.modG hO1.1 hGM (Fresh.later hfG.out hw12) hm5
          have hO5 := hO1.push (s := ⟨some ⟨gb, 0, none⟩, nb + 1, cb⟩) hrb hrc hrl (fun _ => hrg) ho5 hm5 (hG5.imp id fun e => ⟨_, e, Nat.le_refl _⟩)
          have c5 := hk5.bM.cell_ (rowS_get sf hb2)
          rw [hsb] at c5
          refine ⟨c5, hk5.bM.frozen b0, hf2, hk5.drop hb2, ?_⟩
          rw [List.map_append]
          refine hO5.mod (F := fun k => k = w1.heap.size) ((Mod.refl (fun k => k = w1.heap.size) w5).setCell (p := ⟨w1.heap.size, b0, none⟩) (.inl rfl) _) (fun k ⟨x, hx, e1⟩ e2 => by have := hf2 x hx; omega) (fun i s l _ hrd hpos k hk e => rdi_rowS hrd hpos hk5.bM (e ▸ hk))))
        replace hh0 := zH hh0
        replace hsb := zH hsb
        replace hnx := zH hnx
        replace hO1 := zH hO1
        replace hb3 := zH hb3
        replace hb4 := zH hb4
        replace hb5 := zH hb5
        replace hmA := zH hmA
        replace hk1 := zH hk1
        replace hrb := zH hrb
        replace hrc := zH hrc
        replace hrl := zH hrl
        replace hrg := zH hrg
        replace hGM := zH hGM
        go_wp2_with (at_builtin; go_loud (refine appG rfl (.tmp 130) (.tmp 135) rfl rfl hO1.out.1 rfl (rds_one _ _ rfl _ ⟨some ⟨gb, 0, none⟩, nb + 1, cb⟩) (by omega) ?_; intro G2 d2 w5 ho5 hm5 hG5; obtain ⟨q1, q2, q3, q4, q5⟩ := hnx5.out _ _ _ ho5 hm5 hG5; replace ho5 := zH ho5; replace hm5 := zH hm5; replace hG5 := zH hG5; replace q3 := zH q3; replace q4 := zH q4; replace q5 := zH q5))
        have hsz5 : Hid (w2.heap.size ≤ (w5.setCell ⟨w1.heap.size, b0, none⟩ (.slice none 0 0)).heap.size) := zH (by
         have h1 := hm5.out.size
         have h2 := hmA.out.size
         have h3 := hsz2.out
         simp [World.setCell] at h1 h2 ⊢
         omega)
        go_loopg [142] a (fun k v w6 => ∃ c ws6, v = .int .i64 (c : Nat) ∧ c + k = a ∧ KMem w1 w6 w1.heap.size (w1.heap.size + 1) a (upd sf b0 ⟨none, 0, 0⟩) wf (upd (lsR g lab R) b0 []) ws6 ∧ (∀ b, b < a → ws6 b = if b < c then delI (b0 : Int) (ws b) else ws b) ∧
         OwG w6 G2 (r + 1) d2 (ss' ++ [SV.mk (some ⟨gb, 0, none⟩) (nb + 1) cb]) ((R ++ [b0]).map fun a => zs (memL g lab a)) ∧ w2.heap.size ≤ w6.heap.size)
        case atStart => exact ⟨0, ws, rfl, by omega, q4.out, fun b _ => (by simp), q5.out, hsz5.out⟩
        case round =>
         obtain ⟨c0, ws6, rfl, hck, hk6, hw6, hO6, hs6⟩ := hrel
         by_cases hca2 : c0 < a
         ·obtain ⟨x, hx⟩ := hR.out.full c0 hca2
          have xW := hk6.bW.cell_ (rowM_get wf hca2)
          rw [hx] at xW
          have hMx := (hk6.mp c0 x hca2 hx).1
          have hwf : (Lit.int .i64 (b0 : Int)).wf = true := by simp [Lit.wf, IntKind.min, IntKind.max, IntKind.signed, IntKind.bits]; omega
          have hnd := hk6.nd c0 hca2
          replace hk6 := zH hk6
          replace hw6 := zH hw6
          replace hO6 := zH hO6
          replace hs6 := zH hs6
          replace hMx := zH hMx
          replace hx := zH hx
          replace hnd := zH hnd
          go_wp2_with (show wpList _ _ _ (⟨none, _, _, _, _, _⟩ :: _) _ _; go_loud (refine mapI_del _ rfl (.tmp 146) (.tmp 147) 93 3 rfl 4 Tryz.underlying93 Tryz.underlying3 x (ws6 c0) rfl hMx.out (b0 : Int) hwf rfl ?_; intro w7 hM7 hm7 hs7; replace hM7 := zH hM7; replace hm7 := zH hm7))
          go_roundg (gk - 1)
          case measure => omega
          case rel =>
           refine ⟨c0 + 1, _, by go_num, by omega, hk6.out.turn hca2 hx.out hM7.out hm7.out ⟨delI_nodup hnd.out.1, fun y hy => hnd.out.2 y (mem_delI.1 hy).1⟩, fun b hb => ?_, ?_, by rw [hs7]; exact hs6.out⟩
           ·by_cases e : b = c0
            ·subst e
             rw [upd_self, if_pos (by omega), hw6.out b hb, if_neg (by omega)]
            ·rw [upd_ne _ _ e, hw6.out b hb]
             by_cases e2 : b < c0
             ·rw [if_pos e2, if_pos (by omega)]
             ·rw [if_neg e2, if_neg (by omega)]
           ·exact hO6.out.mod hm7.out (fun k hk e => mapI_ow hMx.out hO6.out.1 (e ▸ hk)) (fun i s l _ hrd hpos k hk e => rdi_map hrd hpos hMx.out (e ▸ hk))
         ·obtain rfl : c0 = a := by omega
          have hfin : Hid (Rnd g lab w1 wr w1.heap.size (w1.heap.size + 1) c0 (R ++ [b0]) (upd sf b0 ⟨none, 0, 0⟩) wf ws6) := zH (hR.out.next hk6 (fun b hb => by rw [hw6 b hb, if_pos hb]) hnx.out)
          have hRl2 : (R ++ [b0]).length = r + 1 := by rw [List.length_append, hRl.out]; rfl
          replace hk6 := zH hk6
          replace hw6 := zH hw6
          replace hO6 := zH hO6
          replace hs6 := zH hs6
          go_wp2_with fail
          go_roundg (c0 - (r + 1))
          case measure => omega
          case rel => exact ⟨R ++ [b0], _, ws6, G2, d2, _, by rw [hRl2]; go_num, by rw [hRl2], by rw [hRl2]; omega, hfin.out, by rw [hRl2]; exact hO6.out, q3.out, hs6.out⟩
    ·have hmr : m ≤ R.length := by omega
     have hks := hR.out.done hL.out hmr
     have hlen : (R.map (memL g lab)).length = R.length := List.length_map ..
     have hmap : (R.map (memL g lab)).map zs = R.map fun a => zs (memL g lab a) := by rw [List.map_map]; rfl
     have hm0 := hR.mem.m0
     generalize hRl : R.length = r at *
     replace hR := zH hR
     replace hO := zH hO
     replace hfG := zH hfG
     replace hRl := zH hRl
     replace hks := zH hks
     replace hmap := zH hmap
     replace hm0 := zH hm0
     go_wp2_with fail
     go_ret
     exact ⟨R.map (memL g lab), hks.out, G, d, ss', by rw [hlen]; rfl, by rw [hlen, hmap.out]; exact hO.out, Fresh.later hfG.out (Nat.le_trans (Nat.le_trans hm1.out.size (by omega)) (Nat.le_refl _)), hm1.out.trans hm0.out⟩
end Go.Proofs.YtfkfiokkjjnhiaaGreat.Kn
