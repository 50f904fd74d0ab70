/-
  Knots: members and what they wait for, in memory.
-/
import Derived.Test.YtenlpklgpcnfiaaKnM
import Derived.Test.YtenlpklgpcnfiaaMapI
import Derived.Test.YtenlpklgpcnfiaaKnB
namespace Go.Proofs.Ytenlpklgpcnfiaa
set_option linter.unusedVariables false
open Go.RowKit
def rowS (m : Nat) (sf : Nat → SV) : Array Value := ((List.range m).map fun i => (sf i).v).toArray
def rowM (m : Nat) (wf : Nat → Option Nat) : Array Value := ((List.range m).map fun i => Value.map (wf i)).toArray
theorem rowS_get {n : Nat} (f : Nat → SV) {i : Nat} (h : i < n) : (rowS n f)[i]? = some (.slice (f i).a (f i).n (f i).c) := by simp [rowS, h, SV.v]
theorem rowM_get {n : Nat} (f : Nat → Option Nat) {i : Nat} (h : i < n) : (rowM n f)[i]? = some (.map (f i)) := by simp [rowM, h]
theorem rowS_set (n : Nat) (f : Nat → SV) (i : Nat) (x : SV) : (rowS n f).setIfInBounds i (.slice x.a x.n x.c) = rowS n (upd f i x) := by
  unfold rowS
  rw [List.setIfInBounds_toArray]
  exact congrArg _ (range_set n f (fun x => SV.v x) i x)
theorem rowM_set (n : Nat) (f : Nat → Option Nat) (i : Nat) (x : Option Nat) : (rowM n f).setIfInBounds i (.map x) = rowM n (upd f i x) := by
  unfold rowM
  rw [List.setIfInBounds_toArray, range_set n f (fun x => Value.map x)]
theorem made_rowS (n : Nat) : madeCells #[.slice none 0 0] n = rowS n fun _ => ⟨none, 0, 0⟩ := by
  apply Array.ext'
  simp [madeCells, rowS, SV.v, Nat.mod_one]
theorem made_rowM (n : Nat) : madeCells #[.map none] n = rowM n fun _ => none := by
  apply Array.ext'
  simp [madeCells, rowM, Nat.mod_one]
theorem mapI_blk {w : World} {k : TypeId} {x g : Nat} {L : List Int} {t : TypeId} {cs : Array Value} (h : MapI w k x L) (hb : Blk w g t cs) : x ≠ g := by
  rintro rfl
  obtain ⟨n, _, es, clock, h1, _⟩ := h
  unfold Blk at hb
  rw [h1] at hb
  cases hb
theorem mapI_ow {w : World} {k : TypeId} {x : Nat} {L : List Int} {e : TypeId} {s n c : Nat} {A : Option Addr} {xs : List Value} (h : MapI w k x L) (hb : Ow w e s A n c xs) : ¬ fp A x := by
  rintro ⟨a, ha, rfl⟩
  rcases hb.2.2.2 with ⟨h4, _⟩ | ⟨g, cur, h4, hg, _⟩
  · rw [h4] at ha; cases ha
  · rw [h4] at ha; cases ha
    exact mapI_blk h hg rfl
structure KMem (w0 w : World) (M Wt m : Nat) (sf : Nat → SV) (wf : Nat → Option Nat) (ls : Nat → List Nat) (ws : Nat → List Int) : Prop where
  m0 : Mod none_ w0 w
  fM : w0.heap.size ≤ M
  fW : w0.heap.size ≤ Wt
  bM : Blk w M 28 (rowS m sf)
  bW : Blk w Wt 44 (rowM m wf)
  own : ∀ a, a < m → OwZ w (sf a).a (sf a).n (sf a).c (zs (ls a))
  fr : ∀ a, a < m → Fresh w0 (sf a).a
  dis : ∀ a b, a < m → b < m → a ≠ b → ∀ k, fp (sf a).a k → ¬ fp (sf b).a k
  mp : ∀ a x, a < m → wf a = some x → MapI w 3 x (ws a) ∧ w0.heap.size ≤ x
  mdis : ∀ a b x y, a < m → b < m → a ≠ b → wf a = some x → wf b = some y → x ≠ y
  nil : ∀ a, a < m → wf a = none → ws a = []
  nd : ∀ a, a < m → (ws a).Nodup ∧ ∀ x ∈ ws a, 0 ≤ x ∧ x < (m : Int)
section
variable {w0 w w' : World} {M Wt m : Nat} {sf : Nat → SV} {wf : Nat → Option Nat} {ls : Nat → List Nat} {ws : Nat → List Int}
theorem KMem.mod0 (h : KMem w0 w M Wt m sf wf ls ws) (hm : Mod none_ w w') : KMem w0 w' M Wt m sf wf ls ws :=
  ⟨h.m0.trans hm, h.fM, h.fW, h.bM.mod hm (fun h => h), h.bW.mod hm (fun h => h), fun a ha => Ow.mod0 (h.own a ha) hm, h.fr, h.dis, fun a x ha e => ⟨(h.mp a x ha e).1.mod hm (fun h => h), (h.mp a x ha e).2⟩, h.mdis, h.nil, h.nd⟩
theorem KMem.wlen (h : KMem w0 w M Wt m sf wf ls ws) {a : Nat} (ha : a < m) : (ws a).length ≤ m := by
  obtain ⟨h1, h2⟩ := h.nd a ha
  have h3 : ((ws a).map Int.toNat).Nodup := by
    unfold List.Nodup at h1 ⊢
    rw [List.pairwise_map]
    refine List.Pairwise.imp_of_mem ?_ h1
    intro x y hx hy hne e
    have := h2 x hx
    have := h2 y hy
    exact hne (by omega)
  have := pigeon (b := List.range m) h3 fun s hs => by
    obtain ⟨x, hx, rfl⟩ := List.mem_map.1 hs
    have := h2 x hx
    exact List.mem_range.2 (by omega)
  simpa using this
theorem KMem.app (h : KMem w0 w M Wt m sf wf ls ws) {a i : Nat} (ha : a < m) {A' : Option Addr} {c' : Nat} (hO : OwZ w' A' ((sf a).n + 1) c' (zs (ls a) ++ [(i : Int)])) (hm : Mod (fp (sf a).a) w w') (hA : A' = (sf a).a ∨ A' = some ⟨w.heap.size, 0, none⟩) :
    KMem w0 (w'.setCell ⟨M, a, none⟩ (.slice A' ((sf a).n + 1) c')) M Wt m (upd sf a ⟨A', (sf a).n + 1, c'⟩) wf (upd ls a (ls a ++ [i])) ws := by
  have hm2 : Mod (fun k => k = M) w' (w'.setCell ⟨M, a, none⟩ (.slice A' ((sf a).n + 1) c')) := (Mod.refl (fun k => k = M) w').setCell (p := ⟨M, a, none⟩) (.inl rfl) _
  have hMa : ¬ fp (sf a).a M := Ow.ne_blk (h.own a ha) h.bM (by decide)
  have hWa : ¬ fp (sf a).a Wt := Ow.ne_blk (h.own a ha) h.bW (by decide)
  have hWM : Wt ≠ M := h.bW.ne_ h.bM (by decide)
  have bM' := h.bM.mod hm hMa
  have hA' : ∀ b, b < m → b ≠ a → ∀ k, fp A' k → ¬ fp (sf b).a k := by
    intro b hb hba k hk hkb
    rcases hA with rfl | rfl
    · exact h.dis a b ha hb (Ne.symm hba) k hk hkb
    · obtain ⟨x, hx, rfl⟩ := hk
      cases hx
      have := Ow.lt (h.own b hb) _ hkb
      simp at this
  refine ⟨?_, h.fM, h.fW, ?_, (h.bW.mod hm hWa).mod hm2 hWM, ?_, ?_, ?_, ?_, h.mdis, h.nil, h.nd⟩
  · exact (h.m0.app (h.fr a ha) hm).then hm2 fun k hk e => by have := h.fM; omega
  · have := bM'.set_ a (.slice A' ((sf a).n + 1) c')
    rw [rowS_set m sf a ⟨A', (sf a).n + 1, c'⟩] at this
    exact this
  · intro b hb
    by_cases e : b = a
    · subst e
      rw [upd_self, upd_self, zs_app]
      exact Ow.mod hO hm2 fun k hk e => Ow.ne_blk hO bM' (by decide) (e ▸ hk)
    · rw [upd_ne _ _ e, upd_ne _ _ e]
      have h1 : OwZ w' (sf b).a (sf b).n (sf b).c (zs (ls b)) := Ow.mod (h.own b hb) hm fun k hk hka => h.dis b a hb ha e k hk hka
      exact Ow.mod h1 hm2 fun k hk e => Ow.ne_blk h1 bM' (by decide) (e ▸ hk)
  · intro b hb
    by_cases e : b = a
    · subst e
      rw [upd_self]
      exact Fresh.app (h.fr b hb) h.m0.size hA
    · rw [upd_ne _ _ e]; exact h.fr b hb
  · intro b c hb hc hbc k hk
    by_cases e : b = a
    · subst e
      rw [upd_self] at hk
      rw [upd_ne _ _ (Ne.symm hbc)]
      exact hA' c hc (Ne.symm hbc) k hk
    · rw [upd_ne _ _ e] at hk
      by_cases e2 : c = a
      · subst e2
        rw [upd_self]
        exact fun hk2 => hA' b hb e k hk2 hk
      · rw [upd_ne _ _ e2]; exact h.dis b c hb hc hbc k hk
  · intro b x hb e
    obtain ⟨h1, h2⟩ := h.mp b x hb e
    have h3 : MapI w' 3 x (ws b) := h1.mod hm (mapI_ow h1 (h.own a ha))
    exact ⟨h3.mod hm2 (mapI_blk h3 bM'), h2⟩
theorem KMem.mkm (h : KMem w0 w M Wt m sf wf ls ws) {a : Nat} (ha : a < m) (hw : wf a = none) :
    KMem w0 ((w.alloc (.map #[] 0)).setCell ⟨Wt, a, none⟩ (.map (some w.heap.size))) M Wt m sf (upd wf a (some w.heap.size)) ls ws := by
  have hm := (Mod.refl none_ w).alloc (.map #[] 0)
  have hm2 : Mod (fun k => k = Wt) (w.alloc (.map #[] 0)) ((w.alloc (.map #[] 0)).setCell ⟨Wt, a, none⟩ (.map (some w.heap.size))) := (Mod.refl (fun k => k = Wt) _).setCell (p := ⟨Wt, a, none⟩) (.inl rfl) _
  have k := h.mod0 hm
  have hWM : M ≠ Wt := (h.bW.ne_ h.bM (by decide)).symm
  have hnew := MapI.made w 3
  refine ⟨k.m0.then hm2 fun j hj e => by have := h.fW; omega, h.fM, h.fW, k.bM.mod hm2 hWM, ?_, fun b hb => Ow.mod (k.own b hb) hm2 fun j hj e => Ow.ne_blk (k.own b hb) k.bW (by decide) (e ▸ hj), h.fr, h.dis, ?_, ?_, ?_, h.nd⟩
  · have := k.bW.set_ a (.map (some w.heap.size))
    rw [rowM_set m wf a] at this
    exact this
  · intro b x hb e
    by_cases e1 : b = a
    · subst e1
      rw [upd_self] at e
      cases e
      rw [h.nil b hb hw]
      exact ⟨hnew.mod hm2 (mapI_blk hnew k.bW), h.m0.size⟩
    · rw [upd_ne _ _ e1] at e
      obtain ⟨h1, h2⟩ := k.mp b x hb e
      exact ⟨h1.mod hm2 (mapI_blk h1 k.bW), h2⟩
  · intro b c x y hb hc hbc e1 e2
    by_cases e3 : b = a
    · subst e3
      rw [upd_self] at e1
      rw [upd_ne _ _ (Ne.symm hbc)] at e2
      cases e1
      have := (h.mp c y hc e2).1.lt
      omega
    · rw [upd_ne _ _ e3] at e1
      by_cases e4 : c = a
      · subst e4
        rw [upd_self] at e2
        cases e2
        have := (h.mp b x hb e1).1.lt
        omega
      · rw [upd_ne _ _ e4] at e2
        exact h.mdis b c x y hb hc hbc e1 e2
  · intro b hb e
    by_cases e1 : b = a
    · subst e1; rw [upd_self] at e; cases e
    · rw [upd_ne _ _ e1] at e; exact h.nil b hb e
theorem KMem.turn (h : KMem w0 w M Wt m sf wf ls ws) {a x : Nat} (ha : a < m) (hw : wf a = some x) {L : List Int} (hM : MapI w' 3 x L) (hm : Mod (· = x) w w') (hnd : L.Nodup ∧ ∀ y ∈ L, 0 ≤ y ∧ y < (m : Int)) :
    KMem w0 w' M Wt m sf wf ls (upd ws a L) := by
  obtain ⟨h1, h2⟩ := h.mp a x ha hw
  refine ⟨h.m0.then hm fun j hj e => by omega, h.fM, h.fW, h.bM.mod hm (fun e => mapI_blk h1 h.bM e.symm), h.bW.mod hm (fun e => mapI_blk h1 h.bW e.symm), fun b hb => Ow.mod (h.own b hb) hm fun j hj e => mapI_ow h1 (h.own b hb) (e ▸ hj), h.fr, h.dis, ?_, h.mdis, ?_, ?_⟩
  · intro b y hb e
    by_cases e1 : b = a
    · subst e1
      rw [hw] at e
      cases e
      rw [upd_self]
      exact ⟨hM, h2⟩
    · rw [upd_ne _ _ e1]
      obtain ⟨h3, h4⟩ := h.mp b y hb e
      exact ⟨h3.mod hm (fun e2 => h.mdis b a y x hb ha e1 e hw e2), h4⟩
  · intro b hb e
    by_cases e1 : b = a
    · subst e1; rw [hw] at e; cases e
    · rw [upd_ne _ _ e1]; exact h.nil b hb e
  · intro b hb
    by_cases e1 : b = a
    · subst e1; rw [upd_self]; exact hnd
    · rw [upd_ne _ _ e1]; exact h.nd b hb
theorem insI_nodup {x : Int} : ∀ {L : List Int}, L.Nodup → x ∉ L → (insI x L).Nodup
  | [], _, _ => by simp [insI]
  | y :: l, h, hx => by
    unfold insI
    split
    · exact List.nodup_cons.2 ⟨hx, h⟩
    · rw [List.nodup_cons] at h ⊢
      refine ⟨fun hm => ?_, insI_nodup h.2 fun hm => hx (List.mem_cons_of_mem _ hm)⟩
      rcases mem_insI.1 hm with e | e
      · exact hx (by rw [e]; simp)
      · exact h.1 e
theorem putI_nodup {x : Int} {L : List Int} (h : L.Nodup) : (putI x L).Nodup := insI_nodup (h.filter _) fun hm => by simp at hm
theorem delI_nodup {x : Int} {L : List Int} (h : L.Nodup) : (delI x L).Nodup := h.filter _
theorem KMem.drop (h : KMem w0 w M Wt m sf wf ls ws) {a : Nat} (ha : a < m) :
    KMem w0 (w.setCell ⟨M, a, none⟩ (.slice none 0 0)) M Wt m (upd sf a ⟨none, 0, 0⟩) wf (upd ls a []) ws := by
  have hm2 : Mod (fun k => k = M) w (w.setCell ⟨M, a, none⟩ (.slice none 0 0)) := (Mod.refl (fun k => k = M) w).setCell (p := ⟨M, a, none⟩) (.inl rfl) _
  have hWM : Wt ≠ M := h.bW.ne_ h.bM (by decide)
  refine ⟨h.m0.then hm2 fun k hk e => by have := h.fM; omega, h.fM, h.fW, ?_, h.bW.mod hm2 hWM, ?_, ?_, ?_, ?_, h.mdis, h.nil, h.nd⟩
  · have := h.bM.set_ a (.slice none 0 0)
    rw [rowS_set m sf a ⟨none, 0, 0⟩] at this
    exact this
  · intro b hb
    by_cases e : b = a
    · subst e; rw [upd_self, upd_self]; exact Ow.nil _ _ _
    · rw [upd_ne _ _ e, upd_ne _ _ e]
      exact Ow.mod (h.own b hb) hm2 fun k hk e => Ow.ne_blk (h.own b hb) h.bM (by decide) (e ▸ hk)
  · intro b hb
    by_cases e : b = a
    · subst e; rw [upd_self]; exact fun x hx => by cases hx
    · rw [upd_ne _ _ e]; exact h.fr b hb
  · intro b c hb hc hbc k hk hk2
    by_cases e : b = a
    · subst e; rw [upd_self] at hk; obtain ⟨x, hx, _⟩ := hk; cases hx
    · rw [upd_ne _ _ e] at hk
      by_cases e2 : c = a
      · subst e2; rw [upd_self] at hk2; obtain ⟨x, hx, _⟩ := hk2; cases hx
      · rw [upd_ne _ _ e2] at hk2; exact h.dis b c hb hc hbc k hk hk2
  · intro b x hb e
    obtain ⟨h1, h2⟩ := h.mp b x hb e
    exact ⟨h1.mod hm2 (mapI_blk h1 h.bM), h2⟩
end
end Go.Proofs.Ytenlpklgpcnfiaa
