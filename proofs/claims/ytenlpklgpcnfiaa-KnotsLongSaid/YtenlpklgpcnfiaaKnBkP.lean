/-
  KnotsBack, plain and memory: a graph turned round.
-/
import Derived.Test.YtenlpklgpcnfiaaKnK
import Derived.Test.YtenlpklgpcnfiaaKnWhP
import Derived.Test.YtenlpklgpcnfiaaKnRe
namespace Go.Proofs.Ytenlpklgpcnfiaa
set_option linter.unusedVariables false
open Go.RowKit
structure BMem (w0 w : World) (M m : Nat) (sf : Nat → SV) (ls : Nat → List Nat) : Prop where
  m0 : Mod none_ w0 w
  fM : w0.heap.size ≤ M
  bM : Blk w M 28 (rowS m sf)
  own : ∀ a, a < m → OwZ w (sf a).a (sf a).n (sf a).c (zs (ls a))
  fr : ∀ a, a < m → Fresh w0 (sf a).a
  dis : ∀ a b, a < m → b < m → a ≠ b → ∀ k, fp (sf a).a k → ¬ fp (sf b).a k
section
variable {w0 w w' : World} {M m : Nat} {sf : Nat → SV} {ls : Nat → List Nat}
theorem BMem.mod0 (h : BMem w0 w M m sf ls) (hm : Mod none_ w w') : BMem w0 w' M m sf ls :=
  ⟨h.m0.trans hm, h.fM, h.bM.mod hm (fun h => h), fun a ha => Ow.mod0 (h.own a ha) hm, h.fr, h.dis⟩
theorem BMem.app (h : BMem w0 w M m sf ls) {a i : Nat} (ha : a < m) {A' : Option Addr} {c' : Nat} (hO : OwZ w' A' ((sf a).n + 1) c' (zs (ls a) ++ [(i : Int)])) (hm : Mod (fp (sf a).a) w w') (hA : A' = (sf a).a ∨ A' = some ⟨w.heap.size, 0, none⟩) :
    BMem w0 (w'.setCell ⟨M, a, none⟩ (.slice A' ((sf a).n + 1) c')) M m (upd sf a ⟨A', (sf a).n + 1, c'⟩) (upd ls a (ls a ++ [i])) := by
  have hm2 : Mod (fun k => k = M) w' (w'.setCell ⟨M, a, none⟩ (.slice A' ((sf a).n + 1) c')) := (Mod.refl (fun k => k = M) w').setCell (p := ⟨M, a, none⟩) (.inl rfl) _
  have hMa : ¬ fp (sf a).a M := Ow.ne_blk (h.own a ha) h.bM (by decide)
  have bM' := h.bM.mod hm hMa
  have hA' : ∀ b, b < m → b ≠ a → ∀ k, fp A' k → ¬ fp (sf b).a k := by
    intro b hb hba k hk hkb
    rcases hA with rfl | rfl
    · exact h.dis a b ha hb (Ne.symm hba) k hk hkb
    · obtain ⟨x, hx, rfl⟩ := hk
      cases hx
      have := Ow.lt (h.own b hb) _ hkb
      simp at this
  refine ⟨?_, h.fM, ?_, ?_, ?_, ?_⟩
  · exact (h.m0.app (h.fr a ha) hm).then hm2 fun k hk e => by have := h.fM; omega
  · have := bM'.set_ a (.slice A' ((sf a).n + 1) c')
    rw [rowS_set m sf a ⟨A', (sf a).n + 1, c'⟩] at this
    exact this
  · intro b hb
    by_cases e : b = a
    · subst e
      rw [upd_self, upd_self, zs_app]
      exact Ow.mod hO hm2 fun k hk e => Ow.ne_blk hO bM' (by decide) (e ▸ hk)
    · rw [upd_ne _ _ e, upd_ne _ _ e]
      have h1 : OwZ w' (sf b).a (sf b).n (sf b).c (zs (ls b)) := Ow.mod (h.own b hb) hm fun k hk hka => h.dis b a hb ha e k hk hka
      exact Ow.mod h1 hm2 fun k hk e => Ow.ne_blk h1 bM' (by decide) (e ▸ hk)
  · intro b hb
    by_cases e : b = a
    · subst e
      rw [upd_self]
      exact Fresh.app (h.fr b hb) h.m0.size hA
    · rw [upd_ne _ _ e]; exact h.fr b hb
  · intro b c hb hc hbc k hk
    by_cases e : b = a
    · subst e
      rw [upd_self] at hk
      rw [upd_ne _ _ (Ne.symm hbc)]
      exact hA' c hc (Ne.symm hbc) k hk
    · rw [upd_ne _ _ e] at hk
      by_cases e2 : c = a
      · subst e2
        rw [upd_self]
        exact fun hk2 => hA' b hb e k hk2 hk
      · rw [upd_ne _ _ e2]; exact h.dis b c hb hc hbc k hk
def gB (m : Nat) (ls : Nat → List Nat) : List (List Int) := (List.range m).map fun a => zs (ls a)
theorem gB_len (m : Nat) (ls : Nat → List Nat) : (gB m ls).length = m := by simp [gB]
theorem BMem.rdg (h : BMem w0 w M m sf ls) (hn : ∀ a, a < m → (sf a).n ≤ 140737488355328) : RdG w (some ⟨M, 0, none⟩) m ((List.range m).map sf) (gB m ls) := by
  refine ⟨⟨by simp, fun _ => ⟨_, rfl, fun j u hu => ?_⟩⟩, by simp [gB], fun i s l hs hl => ?_⟩
  · rw [add_lit, h.bM.cell]
    unfold rowS
    rw [List.map_map] at hu
    simpa using hu
  · rw [List.getElem?_map] at hs
    unfold gB at hl
    rw [List.getElem?_map] at hl
    by_cases hi : i < m
    · rw [List.getElem?_range hi] at hs hl
      cases hs; cases hl
      exact ⟨Ow.rd (h.own i hi), (h.own i hi).2.1, hn i hi⟩
    · rw [List.getElem?_eq_none (by simpa using hi)] at hs
      cases hs
end
/-- the ways, turned round -/
def Turned (g h : List (List Int)) : Prop := h.length = g.length ∧ ∀ a b, Edge h a b ↔ Edge g b a
theorem gB_turned {g : List (List Int)} {ls : Nat → List Nat} (h : ∀ a, a < g.length → ∀ x, x ∈ ls a ↔ Edge g x a) : Turned g (gB g.length ls) := by
  refine ⟨gB_len _ _, fun a b => ?_⟩
  constructor
  · rintro ⟨l, h1, h2, h3⟩
    unfold gB at h1
    rw [List.getElem?_map] at h1
    by_cases ha : a < g.length
    · rw [List.getElem?_range ha] at h1
      cases h1
      refine (h a ha b).1 ?_
      unfold zs at h2
      obtain ⟨x, hx, e⟩ := List.mem_map.1 h2
      rwa [show x = b by omega] at hx
    · rw [List.getElem?_eq_none (by simpa using ha)] at h1
      cases h1
  · intro e
    have ha := e.lt.2
    refine ⟨zs (ls a), ?_, ?_, ?_⟩
    · unfold gB
      rw [List.getElem?_map, List.getElem?_range ha]; rfl
    · unfold zs
      exact List.mem_map.2 ⟨b, (h a ha b).2 e, rfl⟩
    · rw [gB_len]; exact e.lt.1
section
variable {g h : List (List Int)}
theorem Turned.rt (t : Turned g h) {a b : Nat} : RT h a b ↔ RT g b a := by
  constructor
  · intro r
    induction r with
    | refl => exact .refl _
    | step _ e ih => exact (RT.one ((t.2 _ _).1 e)).trans ih
  · intro r
    induction r with
    | refl => exact .refl _
    | step _ e ih => exact (RT.one ((t.2 _ _).2 e)).trans ih
theorem Turned.tc (t : Turned g h) {a b : Nat} : TC h a b ↔ TC g b a := by
  constructor
  · rintro ⟨c, h1, h2⟩
    exact rt_tc (t.rt.1 h2) ((t.2 _ _).1 h1)
  · rintro ⟨c, h1, h2⟩
    exact rt_tc (t.rt.2 h2) ((t.2 _ _).2 h1)
theorem Turned.knot (t : Turned g h) (i : Nat) : knotOf h i = knotOf g i := by
  unfold knotOf
  rw [t.1]
  refine List.filter_congr fun v _ => ?_
  rw [decide_eq_decide, t.rt, t.rt]
  exact ⟨fun ⟨a, b⟩ => ⟨b, a⟩, fun ⟨a, b⟩ => ⟨b, a⟩⟩
/-- a knot of the one is one of the other -/
theorem Turned.has (t : Turned g h) {ka kb : List (List Nat)} (ha : KFacts g (fun _ => False) ka) (hb : KFacts h (fun _ => False) kb) {K : List Nat} (hK : K ∈ ka) : K ∈ kb := by
  obtain ⟨j, hj, e⟩ := List.getElem_of_mem hK
  obtain ⟨i, hi, _, hiK, rfl⟩ := ha.row j K (by rw [List.getElem?_eq_getElem hj, e])
  obtain ⟨j2, K2, h1, h2⟩ := hb.all i (by rw [t.1]; exact hi) (fun h => h)
  obtain ⟨i2, hi2, _, _, rfl⟩ := hb.row j2 K2 h1
  have h3 := mem_knot.1 h2
  have : knotOf h i2 = knotOf g i := by
    rw [← t.knot]
    unfold knotOf
    refine List.filter_congr fun v _ => ?_
    rw [decide_eq_decide]
    exact ⟨fun ⟨a, b⟩ => ⟨h3.2.2.trans a, b.trans h3.2.1⟩, fun ⟨a, b⟩ => ⟨h3.2.1.trans a, b.trans h3.2.2⟩⟩
  rw [← this]
  exact List.mem_of_getElem? h1
theorem KFacts.uniq {ks : List (List Nat)} (h : KFacts g (fun _ => False) ks) {j1 j2 : Nat} {K : List Nat} (h1 : ks[j1]? = some K) (h2 : ks[j2]? = some K) : j1 = j2 := by
  obtain ⟨i, _, _, hi, _⟩ := h.row j1 K h1
  exact h.one j1 j2 K K i h1 hi h2 hi
theorem KFacts.nodup {ks : List (List Nat)} (h : KFacts g (fun _ => False) ks) : ks.Nodup := by
  unfold List.Nodup
  rw [List.pairwise_iff_getElem]
  intro a b ha hb hab e
  have := h.uniq (j1 := a) (j2 := b) (K := ks[a]) (List.getElem?_eq_getElem ha) (by rw [List.getElem?_eq_getElem hb, e])
  omega
theorem pigeonL {α : Type} [DecidableEq α] : ∀ {a b : List α}, a.Nodup → (∀ s ∈ a, s ∈ b) → a.length ≤ b.length
  | [], _, _, _ => Nat.zero_le _
  | x :: a, b, h, hm => by
    rw [List.nodup_cons] at h
    have h1 : x ∈ b := hm x (by simp)
    have := pigeonL (a := a) (b := b.erase x) h.2 fun s hs => (List.mem_erase_of_ne (fun e : s = x => h.1 (by rw [← e]; exact hs))).2 (hm s (List.mem_cons_of_mem _ hs))
    rw [List.length_erase_of_mem h1] at this
    have := List.length_pos_of_mem h1
    rw [List.length_cons]
    omega
theorem Turned.symm (t : Turned g h) : Turned h g := ⟨t.1.symm, fun a b => (t.2 b a).symm⟩
theorem Turned.len (t : Turned g h) {ka kb : List (List Nat)} (ha : KFacts g (fun _ => False) ka) (hb : KFacts h (fun _ => False) kb) : ka.length = kb.length :=
  Nat.le_antisymm (pigeonL ha.nodup fun K hK => t.has ha hb hK) (pigeonL hb.nodup fun K hK => t.symm.has hb ha hK)
end
end Go.Proofs.Ytenlpklgpcnfiaa
