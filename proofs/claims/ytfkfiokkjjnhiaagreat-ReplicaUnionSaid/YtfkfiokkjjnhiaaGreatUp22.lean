import Derived.Test.YtfkfiokkjjnhiaaGreatUp2
import Derived.Test.YtfkfiokkjjnhiaaGreatUp19
set_option linter.unusedVariables false
set_option linter.unusedSimpArgs false
set_option maxHeartbeats 16000000
namespace Go.Proofs.YtfkfiokkjjnhiaaGreat
open Go.RowKit
open Go.Maps (Keyed int_keyed)
def entI (x : Int) : Lit × DataW Value := (.int .i64 x, .held (.bool true))
def setD (L : List Int) : DataW Value := .map (L.map entI)
def insI (x : Int) : List Int → List Int
 | [] => [x]
 | y :: l => if x < y then x :: y :: l else y :: insI x l
def putI (x : Int) (L : List Int) : List Int := insI x (L.filter fun y => !(y == x))
def delI (x : Int) (L : List Int) : List Int := L.filter fun y => !(y == x)
def MapI (w : World) (k : TypeId) (b : Nat) (L : List Int) : Prop := ∃ n, n < maxLen ∧ w.ownsMap Tryz.prog k VR b n (setD L)
theorem mem_insI {x y : Int} : ∀ {L : List Int}, y ∈ insI x L ↔ y = x ∨ y ∈ L
 | [] => by simp [insI]
 | z :: l => by
  unfold insI
  split
  ·simp
  ·simp only [List.mem_cons, mem_insI (L := l)]
   constructor
   ·rintro (h | h | h)
    ·exact .inr (.inl h)
    ·exact .inl h
    ·exact .inr (.inr h)
   ·rintro (h | h | h)
    ·exact .inr (.inl h)
    ·exact .inl h
    ·exact .inr (.inr h)
theorem mem_putI {x y : Int} {L : List Int} : y ∈ putI x L ↔ y = x ∨ y ∈ L := by
 unfold putI
 rw [mem_insI, List.mem_filter]
 by_cases e : y = x
 ·simp [e]
 ·simp [e]
theorem mem_delI {x y : Int} {L : List Int} : y ∈ delI x L ↔ y ∈ L ∧ y ≠ x := by
 unfold delI
 rw [List.mem_filter]
 simp
theorem same_int (a b : Int) : (Lit.int .i64 a).sameKey (.int .i64 b) = (a == b) := by
 show decide (IntKind.i64 = IntKind.i64 ∧ a = b) = (a == b)
 by_cases e : a = b <;> simp [e]
theorem put_setD (L : List Int) (x : Int) : (setD L).put (.int .i64 x) (.held (.bool true)) = setD (putI x L) := by
 have hf : (L.map entI).filter (fun p => !p.1.sameKey (.int .i64 x)) = (L.filter fun y => !(y == x)).map entI := by
  rw [List.filter_map]
  congr 1
  refine List.filter_congr fun y _ => ?_
  show (!(Lit.int .i64 y).sameKey (.int .i64 x)) = _
  rw [same_int]
 have hi : ∀ l : List Int, DataW.insert (Lit.int .i64 x, DataW.held (.bool true)) (l.map entI) = (insI x l).map entI := by
  intro l
  induction l with
  | nil => rfl
  | cons y l ih =>
   simp only [List.map_cons, DataW.insert, insI]
   have : (Lit.int .i64 x).before (entI y).1 = decide (x < y) := rfl
   rw [this, ih]
   by_cases e : x < y
   ·simp [e]; rfl
   ·simp [e]
 show DataW.map _ = DataW.map _
 rw [hf, hi]; rfl
theorem del_setD (L : List Int) (x : Int) : (setD L).del (.int .i64 x) = setD (delI x L) := by
 show DataW.map _ = DataW.map _
 congr 1
 unfold delI
 rw [List.filter_map]
 congr 1
 refine List.filter_congr fun y _ => ?_
 show (!(Lit.int .i64 y).sameKey (.int .i64 x)) = _
 rw [same_int]
theorem size_setD (L : List Int) : Maps.size (setD L) = L.length := by simp [setD, Maps.size]
section
variable {F : Nat → Prop} {w w' : World} {k : TypeId} {b : Nat} {L : List Int}
theorem MapI.lt (h : MapI w k b L) : b < w.heap.size := by obtain ⟨n, _, h⟩ := h; exact h.lt
theorem MapI.mod (h : MapI w k b L) (hm : Mod F w w') (hb : ¬ F b) : MapI w' k b L := by
 have hlt := h.lt
 obtain ⟨n, hn, es, clock, h1, h2, h3, h4⟩ := h
 exact ⟨n, hn, es, clock, (hm.block b hlt hb).trans h1, h2, h3, h4⟩
theorem MapI.made (w : World) (k : TypeId) : MapI (w.alloc (.map #[] 0)) k w.heap.size [] := ⟨0, by decide, World.ownsMap_made _ _ _ _⟩
theorem MapI.tight (h : MapI w k b L) : w.ownsMap Tryz.prog k VR b L.length (setD L) := by
 obtain ⟨n, hn, es, clock, h1, h2, h3, h4⟩ := h
 refine ⟨es, clock, h1, h2, ?_, h4⟩
 have := congrArg Maps.size h4
 rw [size_setD] at this
 rw [this]; simp [Maps.size, length_sorted]
end
section
variable (w : World) {ops : Array Oper} {rest : List Oper} {o : Oper} {a : Act} {Q : Exit → Act → World → Prop}
theorem mapI_del (hg : o.guard = none) (m x : Operand) (t k : TypeId) (hop : o.op = Op.call { callee := Callee.builtin Builtin.delete, args := #[m, x], argTypes := #[t, k] }) (e : TypeId) (ht : Tryz.prog.underlying t = some (.map k e)) (hk : Tryz.prog.underlying k = some (.int .i64))
  (b : Nat) (L : List Int) (hm : a.eval m = .map (some b)) (h : MapI w k b L) (s : Int) (hs : (Lit.int .i64 s).wf = true) (hx : a.eval x = .int .i64 s)
  (hK : ∀ w', MapI w' k b (delI s L) → Mod (· = b) w w' → w'.heap.size = w.heap.size → wpList Tryz.prog ops Q rest (a.put o.dst (.tuple #[])) w') :
  wpList Tryz.prog ops Q (o :: rest) a w := by
 obtain ⟨n, hn, hown⟩ := h
 refine wpList_delete_own w hg m x t k hop e (int_keyed hk) ht VR b n (setD L) hm hown _ (.int .i64 s) hx (Go.Maps.keyOf_int_mk hk hs) ?_
 intro w' h1 h2
 rw [del_setD] at h1
 refine hK w' ⟨n, hn, h1⟩ ((Mod.of_grown h2.grown).mono fun i hi => by cases hi; rfl) ?_
 obtain ⟨es, c, es', c', _, rfl⟩ := h2
 simp [ChangeMaps.setBlock]
end
end Go.Proofs.YtfkfiokkjjnhiaaGreat
namespace Go.Proofs.YtfkfiokkjjnhiaaGreat.Kn
open Go.RowKit
def rowS (m : Nat) (sf : Nat → SV) : Array Value := ((List.range m).map fun i => (sf i).v).toArray
def rowM (m : Nat) (wf : Nat → Option Nat) : Array Value := ((List.range m).map fun i => Value.map (wf i)).toArray
theorem rowS_get {n : Nat} (f : Nat → SV) {i : Nat} (h : i < n) : (rowS n f)[i]? = some (.slice (f i).a (f i).n (f i).c) := by simp [rowS, h, SV.v]
theorem rowM_get {n : Nat} (f : Nat → Option Nat) {i : Nat} (h : i < n) : (rowM n f)[i]? = some (.map (f i)) := by simp [rowM, h]
theorem rowS_set (n : Nat) (f : Nat → SV) (i : Nat) (x : SV) : (rowS n f).setIfInBounds i (.slice x.a x.n x.c) = rowS n (upd f i x) := by
 unfold rowS
 rw [List.setIfInBounds_toArray]
 exact congrArg _ (range_set n f (fun x => SV.v x) i x)
theorem rowM_set (n : Nat) (f : Nat → Option Nat) (i : Nat) (x : Option Nat) : (rowM n f).setIfInBounds i (.map x) = rowM n (upd f i x) := by
 unfold rowM
 rw [List.setIfInBounds_toArray, range_set n f (fun x => Value.map x)]
theorem made_rowS (n : Nat) : madeCells #[.slice none 0 0] n = rowS n fun _ => ⟨none, 0, 0⟩ := by
 apply Array.ext'
 simp [madeCells, rowS, SV.v, Nat.mod_one]
theorem made_rowM (n : Nat) : madeCells #[.map none] n = rowM n fun _ => none := by
 apply Array.ext'
 simp [madeCells, rowM, Nat.mod_one]
theorem mapI_blk {w : World} {k : TypeId} {x g : Nat} {L : List Int} {t : TypeId} {cs : Array Value} (h : MapI w k x L) (hb : Blk w g t cs) : x ≠ g := by
 rintro rfl
 obtain ⟨n, _, es, clock, h1, _⟩ := h
 unfold Blk at hb
 rw [h1] at hb
 cases hb
theorem mapI_ow {w : World} {k : TypeId} {x : Nat} {L : List Int} {e : TypeId} {s n c : Nat} {A : Option Addr} {xs : List Value} (h : MapI w k x L) (hb : Ow w e s A n c xs) : ¬ fp A x := by
 rintro ⟨a, ha, rfl⟩
 rcases hb.2.2.2 with ⟨h4, _⟩ | ⟨g, cur, h4, hg, _⟩
 ·rw [h4] at ha; cases ha
 ·rw [h4] at ha; cases ha
  exact mapI_blk h hg rfl
structure KMem (w0 w : World) (M Wt m : Nat) (sf : Nat → SV) (wf : Nat → Option Nat) (ls : Nat → List Nat) (ws : Nat → List Int) : Prop where
 m0 : Mod none_ w0 w
 fM : w0.heap.size ≤ M
 fW : w0.heap.size ≤ Wt
 bM : Blk w M 31 (rowS m sf)
 bW : Blk w Wt 93 (rowM m wf)
 own : ∀ a, a < m → OwZ w (sf a).a (sf a).n (sf a).c (zs (ls a))
 fr : ∀ a, a < m → Fresh w0 (sf a).a
 dis : ∀ a b, a < m → b < m → a ≠ b → ∀ k, fp (sf a).a k → ¬ fp (sf b).a k
 mp : ∀ a x, a < m → wf a = some x → MapI w 3 x (ws a) ∧ w0.heap.size ≤ x
 mdis : ∀ a b x y, a < m → b < m → a ≠ b → wf a = some x → wf b = some y → x ≠ y
 nil : ∀ a, a < m → wf a = none → ws a = []
 nd : ∀ a, a < m → (ws a).Nodup ∧ ∀ x ∈ ws a, 0 ≤ x ∧ x < (m : Int)
section
variable {w0 w w' : World} {M Wt m : Nat} {sf : Nat → SV} {wf : Nat → Option Nat} {ls : Nat → List Nat} {ws : Nat → List Int}
theorem KMem.mod0 (h : KMem w0 w M Wt m sf wf ls ws) (hm : Mod none_ w w') : KMem w0 w' M Wt m sf wf ls ws :=
 ⟨h.m0.trans hm, h.fM, h.fW, h.bM.mod hm (fun h => h), h.bW.mod hm (fun h => h), fun a ha => Ow.mod0 (h.own a ha) hm, h.fr, h.dis, fun a x ha e => ⟨(h.mp a x ha e).1.mod hm (fun h => h), (h.mp a x ha e).2⟩, h.mdis, h.nil, h.nd⟩
theorem KMem.wlen (h : KMem w0 w M Wt m sf wf ls ws) {a : Nat} (ha : a < m) : (ws a).length ≤ m := by
 obtain ⟨h1, h2⟩ := h.nd a ha
 have h3 : ((ws a).map Int.toNat).Nodup := by
  unfold List.Nodup at h1 ⊢
  rw [List.pairwise_map]
  refine List.Pairwise.imp_of_mem ?_ h1
  intro x y hx hy hne e
  have := h2 x hx
  have := h2 y hy
  exact hne (by omega)
 have := pigeon (b := List.range m) h3 fun s hs => by
  obtain ⟨x, hx, rfl⟩ := List.mem_map.1 hs
  have := h2 x hx
  exact List.mem_range.2 (by omega)
 simpa using this
theorem KMem.app (h : KMem w0 w M Wt m sf wf ls ws) {a i : Nat} (ha : a < m) {A' : Option Addr} {c' : Nat} (hO : OwZ w' A' ((sf a).n + 1) c' (zs (ls a) ++ [(i : Int)])) (hm : Mod (fp (sf a).a) w w') (hA : A' = (sf a).a ∨ A' = some ⟨w.heap.size, 0, none⟩) :
  KMem w0 (w'.setCell ⟨M, a, none⟩ (.slice A' ((sf a).n + 1) c')) M Wt m (upd sf a ⟨A', (sf a).n + 1, c'⟩) wf (upd ls a (ls a ++ [i])) ws := by
 have hm2 : Mod (fun k => k = M) w' (w'.setCell ⟨M, a, none⟩ (.slice A' ((sf a).n + 1) c')) := (Mod.refl (fun k => k = M) w').setCell (p := ⟨M, a, none⟩) (.inl rfl) _
 have hMa : ¬ fp (sf a).a M := Ow.ne_blk (h.own a ha) h.bM (by decide)
 have hWa : ¬ fp (sf a).a Wt := Ow.ne_blk (h.own a ha) h.bW (by decide)
 have hWM : Wt ≠ M := h.bW.ne_ h.bM (by decide)
 have bM' := h.bM.mod hm hMa
 have hA' : ∀ b, b < m → b ≠ a → ∀ k, fp A' k → ¬ fp (sf b).a k := by
  intro b hb hba k hk hkb
  rcases hA with rfl | rfl
  ·exact h.dis a b ha hb (Ne.symm hba) k hk hkb
  ·obtain ⟨x, hx, rfl⟩ := hk
   cases hx
   have := Ow.lt (h.own b hb) _ hkb
   simp at this
 refine ⟨?_, h.fM, h.fW, ?_, (h.bW.mod hm hWa).mod hm2 hWM, ?_, ?_, ?_, ?_, h.mdis, h.nil, h.nd⟩
 ·exact (h.m0.app (h.fr a ha) hm).then hm2 fun k hk e => by have := h.fM; omega
 ·have := bM'.set_ a (.slice A' ((sf a).n + 1) c')
  rw [rowS_set m sf a ⟨A', (sf a).n + 1, c'⟩] at this
  exact this
 ·intro b hb
  by_cases e : b = a
  ·subst e
   rw [upd_self, upd_self, zs_app]
   exact Ow.mod hO hm2 fun k hk e => Ow.ne_blk hO bM' (by decide) (e ▸ hk)
  ·rw [upd_ne _ _ e, upd_ne _ _ e]
   have h1 : OwZ w' (sf b).a (sf b).n (sf b).c (zs (ls b)) := Ow.mod (h.own b hb) hm fun k hk hka => h.dis b a hb ha e k hk hka
   exact Ow.mod h1 hm2 fun k hk e => Ow.ne_blk h1 bM' (by decide) (e ▸ hk)
 ·intro b hb
  by_cases e : b = a
  ·subst e
   rw [upd_self]
   exact Fresh.app (h.fr b hb) h.m0.size hA
  ·rw [upd_ne _ _ e]; exact h.fr b hb
 ·intro b c hb hc hbc k hk
  by_cases e : b = a
  ·subst e
   rw [upd_self] at hk
   rw [upd_ne _ _ (Ne.symm hbc)]
   exact hA' c hc (Ne.symm hbc) k hk
  ·rw [upd_ne _ _ e] at hk
   by_cases e2 : c = a
   ·subst e2
    rw [upd_self]
    exact fun hk2 => hA' b hb e k hk2 hk
   ·rw [upd_ne _ _ e2]; exact h.dis b c hb hc hbc k hk
 ·intro b x hb e
  obtain ⟨h1, h2⟩ := h.mp b x hb e
  have h3 : MapI w' 3 x (ws b) := h1.mod hm (mapI_ow h1 (h.own a ha))
  exact ⟨h3.mod hm2 (mapI_blk h3 bM'), h2⟩
theorem KMem.mkm (h : KMem w0 w M Wt m sf wf ls ws) {a : Nat} (ha : a < m) (hw : wf a = none) :
  KMem w0 ((w.alloc (.map #[] 0)).setCell ⟨Wt, a, none⟩ (.map (some w.heap.size))) M Wt m sf (upd wf a (some w.heap.size)) ls ws := by
 have hm := (Mod.refl none_ w).alloc (.map #[] 0)
 have hm2 : Mod (fun k => k = Wt) (w.alloc (.map #[] 0)) ((w.alloc (.map #[] 0)).setCell ⟨Wt, a, none⟩ (.map (some w.heap.size))) := (Mod.refl (fun k => k = Wt) _).setCell (p := ⟨Wt, a, none⟩) (.inl rfl) _
 have k := h.mod0 hm
 have hWM : M ≠ Wt := (h.bW.ne_ h.bM (by decide)).symm
 have hnew := MapI.made w 3
 refine ⟨k.m0.then hm2 fun j hj e => by have := h.fW; omega, h.fM, h.fW, k.bM.mod hm2 hWM, ?_, fun b hb => Ow.mod (k.own b hb) hm2 fun j hj e => Ow.ne_blk (k.own b hb) k.bW (by decide) (e ▸ hj), h.fr, h.dis, ?_, ?_, ?_, h.nd⟩
 ·have := k.bW.set_ a (.map (some w.heap.size))
  rw [rowM_set m wf a] at this
  exact this
 ·intro b x hb e
  by_cases e1 : b = a
  ·subst e1
   rw [upd_self] at e
   cases e
   rw [h.nil b hb hw]
   exact ⟨hnew.mod hm2 (mapI_blk hnew k.bW), h.m0.size⟩
  ·rw [upd_ne _ _ e1] at e
   obtain ⟨h1, h2⟩ := k.mp b x hb e
   exact ⟨h1.mod hm2 (mapI_blk h1 k.bW), h2⟩
 ·intro b c x y hb hc hbc e1 e2
  by_cases e3 : b = a
  ·subst e3
   rw [upd_self] at e1
   rw [upd_ne _ _ (Ne.symm hbc)] at e2
   cases e1
   have := (h.mp c y hc e2).1.lt
   omega
  ·rw [upd_ne _ _ e3] at e1
   by_cases e4 : c = a
   ·subst e4
    rw [upd_self] at e2
    cases e2
    have := (h.mp b x hb e1).1.lt
    omega
   ·rw [upd_ne _ _ e4] at e2
    exact h.mdis b c x y hb hc hbc e1 e2
 ·intro b hb e
  by_cases e1 : b = a
  ·subst e1; rw [upd_self] at e; cases e
  ·rw [upd_ne _ _ e1] at e; exact h.nil b hb e
theorem KMem.turn (h : KMem w0 w M Wt m sf wf ls ws) {a x : Nat} (ha : a < m) (hw : wf a = some x) {L : List Int} (hM : MapI w' 3 x L) (hm : Mod (· = x) w w') (hnd : L.Nodup ∧ ∀ y ∈ L, 0 ≤ y ∧ y < (m : Int)) :
  KMem w0 w' M Wt m sf wf ls (upd ws a L) := by
 obtain ⟨h1, h2⟩ := h.mp a x ha hw
 refine ⟨h.m0.then hm fun j hj e => by omega, h.fM, h.fW, h.bM.mod hm (fun e => mapI_blk h1 h.bM e.symm), h.bW.mod hm (fun e => mapI_blk h1 h.bW e.symm), fun b hb => Ow.mod (h.own b hb) hm fun j hj e => mapI_ow h1 (h.own b hb) (e ▸ hj), h.fr, h.dis, ?_, h.mdis, ?_, ?_⟩
 ·intro b y hb e
  by_cases e1 : b = a
  ·subst e1
   rw [hw] at e
   cases e
   rw [upd_self]
   exact ⟨hM, h2⟩
  ·rw [upd_ne _ _ e1]
   obtain ⟨h3, h4⟩ := h.mp b y hb e
   exact ⟨h3.mod hm (fun e2 => h.mdis b a y x hb ha e1 e hw e2), h4⟩
 ·intro b hb e
  by_cases e1 : b = a
  ·subst e1; rw [hw] at e; cases e
  ·rw [upd_ne _ _ e1]; exact h.nil b hb e
 ·intro b hb
  by_cases e1 : b = a
  ·subst e1; rw [upd_self]; exact hnd
  ·rw [upd_ne _ _ e1]; exact h.nd b hb
theorem insI_nodup {x : Int} : ∀ {L : List Int}, L.Nodup → x ∉ L → (insI x L).Nodup
 | [], _, _ => by simp [insI]
 | y :: l, h, hx => by
  unfold insI
  split
  ·exact List.nodup_cons.2 ⟨hx, h⟩
  ·rw [List.nodup_cons] at h ⊢
   refine ⟨fun hm => ?_, insI_nodup h.2 fun hm => hx (List.mem_cons_of_mem _ hm)⟩
   rcases mem_insI.1 hm with e | e
   ·exact hx (by rw [e]; simp)
   ·exact h.1 e
theorem putI_nodup {x : Int} {L : List Int} (h : L.Nodup) : (putI x L).Nodup := insI_nodup (h.filter _) fun hm => by simp at hm
theorem delI_nodup {x : Int} {L : List Int} (h : L.Nodup) : (delI x L).Nodup := h.filter _
theorem KMem.drop (h : KMem w0 w M Wt m sf wf ls ws) {a : Nat} (ha : a < m) :
  KMem w0 (w.setCell ⟨M, a, none⟩ (.slice none 0 0)) M Wt m (upd sf a ⟨none, 0, 0⟩) wf (upd ls a []) ws := by
 have hm2 : Mod (fun k => k = M) w (w.setCell ⟨M, a, none⟩ (.slice none 0 0)) := (Mod.refl (fun k => k = M) w).setCell (p := ⟨M, a, none⟩) (.inl rfl) _
 have hWM : Wt ≠ M := h.bW.ne_ h.bM (by decide)
 refine ⟨h.m0.then hm2 fun k hk e => by have := h.fM; omega, h.fM, h.fW, ?_, h.bW.mod hm2 hWM, ?_, ?_, ?_, ?_, h.mdis, h.nil, h.nd⟩
 ·have := h.bM.set_ a (.slice none 0 0)
  rw [rowS_set m sf a ⟨none, 0, 0⟩] at this
  exact this
 ·intro b hb
  by_cases e : b = a
  ·subst e; rw [upd_self, upd_self]; exact Ow.nil _ _ _
  ·rw [upd_ne _ _ e, upd_ne _ _ e]
   exact Ow.mod (h.own b hb) hm2 fun k hk e => Ow.ne_blk (h.own b hb) h.bM (by decide) (e ▸ hk)
 ·intro b hb
  by_cases e : b = a
  ·subst e; rw [upd_self]; exact fun x hx => by cases hx
  ·rw [upd_ne _ _ e]; exact h.fr b hb
 ·intro b c hb hc hbc k hk hk2
  by_cases e : b = a
  ·subst e; rw [upd_self] at hk; obtain ⟨x, hx, _⟩ := hk; cases hx
  ·rw [upd_ne _ _ e] at hk
   by_cases e2 : c = a
   ·subst e2; rw [upd_self] at hk2; obtain ⟨x, hx, _⟩ := hk2; cases hx
   ·rw [upd_ne _ _ e2] at hk2; exact h.dis b c hb hc hbc k hk hk2
 ·intro b x hb e
  obtain ⟨h1, h2⟩ := h.mp b x hb e
  exact ⟨h1.mod hm2 (mapI_blk h1 h.bM), h2⟩
end
end Go.Proofs.YtfkfiokkjjnhiaaGreat.Kn
