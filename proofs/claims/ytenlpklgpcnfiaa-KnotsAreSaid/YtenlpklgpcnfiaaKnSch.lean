/-
  Knots: the search's memory, step by step.
-/
import Derived.Test.YtenlpklgpcnfiaaKnL
import Derived.Test.YtenlpklgpcnfiaaKnT
import Derived.Deep.LoopGhost
namespace Go.Proofs.Ytenlpklgpcnfiaa
set_option linter.unusedVariables false
open Go.RowKit
def fcs (P : Path) : List Value := P.flatMap fun p => [.int .i64 (p.1 : Int), .int .i64 (p.2 : Int)]
theorem fcs_len (P : Path) : (fcs P).length = P.length * 2 := flat_length _ 2 (fun _ => rfl) P
theorem fcs_app (P Q : Path) : fcs (P ++ Q) = fcs P ++ fcs Q := by simp [fcs]
theorem fcs_last (P : Path) (i e : Nat) : (fcs (P ++ [(i, e)]))[P.length * 2]? = some (.int .i64 (i : Int)) ∧ (fcs (P ++ [(i, e)]))[P.length * 2 + 1]? = some (.int .i64 (e : Int)) := by
  rw [fcs_app]
  have := fcs_len P
  constructor
  · rw [List.getElem?_append_right (by omega), this]; simp [fcs]
  · rw [List.getElem?_append_right (by omega), this]; simp [fcs]
theorem fcs_set (P : Path) (i e f : Nat) : (fcs (P ++ [(i, e)])).set (P.length * 2 + 1) (.int .i64 (f : Int)) = fcs (P ++ [(i, f)]) := by
  rw [fcs_app, fcs_app, List.set_append_right _ _ (by rw [fcs_len]; omega), fcs_len]
  have : P.length * 2 + 1 - P.length * 2 = 1 := by omega
  rw [this]
  simp [fcs]
theorem fcs_one (P : Path) : ∀ u ∈ fcs P, u.oneCell' = true := by
  intro u hu
  simp only [fcs, List.mem_flatMap] at hu
  obtain ⟨p, _, hp⟩ := hu
  simp at hp
  rcases hp with rfl | rfl <;> rfl
def OwP (w : World) (P : Option Addr) (m c : Nat) (path : Path) : Prop := Ow w 56 2 P m c (fcs path)
theorem frinfo : (Try.prog.info? 56).map (fun i => (i.zero, i.size, i.bytes)) = some (some (.agg #[.int .i64 0, .int .i64 0]), 2, 16) := by kernel_rfl
theorem appP {w : World} {ops : Array Oper} {rest : List Oper} {o : Oper} {a : Act} {Q : Exit → Act → World → Prop} (hgd : o.guard = none) (s x : Operand)
    (ho : o.op = .call { callee := .builtin .append, args := #[s, x], argTypes := #[58, 58] })
    {A : Option Addr} {n c : Nat} {xs : Path} (hs : a.eval s = .slice A n c) (hown : OwP w A n c xs)
    {S : Option Addr} {m d : Nat} {news : Path} (hx : a.eval x = .slice S m d) (hr : Rd w 2 S m (fcs news)) (hb : (n + m) * 16 ≤ 140737488355328)
    (h : ∀ A' c' w', OwP w' A' (n + m) c' (xs ++ news) → Mod (fp A) w w' → (A' = A ∨ A' = some ⟨w.heap.size, 0, none⟩) → wpList Try.prog ops Q rest (a.put o.dst (.slice A' (n + m) c')) w') : wpList Try.prog ops Q (o :: rest) a w := by
  obtain ⟨i0, hi, hz0, hz1, hz2⟩ := info_parts frinfo
  refine wpList_append_ow hgd s x 58 ho 56 i0 _ 2 16 Try.underlying58 hi hz0 hz1 hz2 rfl (by omega) A n c (fcs xs) hs hown S m d (fcs news) hx hr (fcs_one _) (by omega) (by omega) ?_
  intro A' c' w' h1
  rw [← fcs_app] at h1
  exact h A' c' w' h1
theorem rdf_one (w : World) (e : TypeId) (g : Nat) (hg : g = w.heap.size) (i k : Nat) : Rd (w.alloc (.cells #[.int .i64 (i : Int), .int .i64 (k : Int)] e)) 2 (some ⟨g, 0, none⟩) 1 (fcs [(i, k)]) :=
  rdn w e 2 1 g #[.int .i64 (i : Int), .int .i64 (k : Int)] (0, 0) hg rfl
/-- all that stands fast in a search -/
structure Scn where
  w0 : World
  B : Fin'
  A : Option Addr
  n : Nat
  c : Nat
  q : Nat
structure Scn.Ok (Z : Scn) : Prop where
  p : Z.w0.heap.size ≤ Z.B.p
  N : Z.w0.heap.size ≤ Z.B.N
  L : Z.w0.heap.size ≤ Z.B.L
  O : Z.w0.heap.size ≤ Z.B.O
  K : Z.w0.heap.size ≤ Z.B.K
  q : Z.w0.heap.size ≤ Z.q
  qN : Z.q ≠ Z.B.N
  qL : Z.q ≠ Z.B.L
  qK : Z.q ≠ Z.B.K
/-- the memory of a search -/
structure Sch (Z : Scn) (w : World) (T : Option Addr) (d : Nat) (S : KS) (P : Option Addr) (cp : Nat) (path : Path) : Prop where
  fin : Fin w Z.B Z.A Z.n Z.c T d S
  qb : Blk w Z.q 3 #[.int .i64 (S.id : Int)]
  qT : ¬ fp T Z.q
  m0 : Mod none_ Z.w0 w
  fT : Fresh Z.w0 T
  own : OwP w P path.length cp path
  fP : Fresh Z.w0 P
section
variable {Z : Scn} {w w' : World} {T : Option Addr} {d : Nat} {S : KS} {P : Option Addr} {cp : Nat} {path : Path}
theorem Sch.mod0 (h : Sch Z w T d S P cp path) (hm : Mod none_ w w') : Sch Z w' T d S P cp path :=
  ⟨h.fin.mod0 hm, h.qb.mod hm (fun h => h), h.qT, h.m0.trans hm, h.fT, Ow.mod0 h.own hm, h.fP⟩
theorem Sch.way {P0 : Path} {i e gP : Nat} (h : Sch Z w T d S P cp (P0 ++ [(i, e)])) (hP : P = some ⟨gP, 0, none⟩) (f : Nat) :
    Sch Z (w.setCell ⟨gP, P0.length * 2 + 1, none⟩ (.int .i64 (f : Int))) T d S P cp (P0 ++ [(i, f)]) := by
  have hm : Mod (fun k => k = gP) w (w.setCell ⟨gP, P0.length * 2 + 1, none⟩ (.int .i64 (f : Int))) := (Mod.refl (fun k => k = gP) w).setCell (p := ⟨gP, P0.length * 2 + 1, none⟩) (.inl rfl) _
  have hg : ∀ {g : Nat} {t : TypeId} {cs : Array Value}, Blk w g t cs → 56 ≠ t → ¬ g = gP := fun hb hne e => Ow.ne_blk h.own hb hne ⟨_, hP, e.symm⟩
  have hpp : ∀ k, fp T k → ¬ k = gP := fun k hk e => Ow.ne_ow h.fin.stk h.own (by decide) k hk ⟨_, hP, e.symm⟩
  refine ⟨h.fin.mod hm (hg h.fin.blk (by decide)) (hg h.fin.num (by decide)) (hg h.fin.low (by decide)) (hg h.fin.on (by decide)) (hg h.fin.knot (by decide)) hpp, h.qb.mod hm (hg h.qb (by decide)), h.qT, ?_, h.fT, ?_, h.fP⟩
  · exact h.m0.then hm fun k hk e => by
      have := h.fP _ hP
      simp only at this
      omega
  · have := Ow.set_ h.own hP (P0.length * 2 + 1) (.int .i64 (f : Int))
    rw [fcs_set] at this
    have e1 : (P0 ++ [(i, f)]).length = (P0 ++ [(i, e)]).length := by simp
    unfold OwP
    rw [e1]; exact this
theorem Sch.low (hZ : Z.Ok) (h : Sch Z w T d S P cp path) {i : Nat} {x : Int} : Sch Z (w.setCell ⟨Z.B.L, i, none⟩ (.int .i64 (min (S.low i) x))) T d (lowK S i x) P cp path := by
  have hm : Mod (fun k => k = Z.B.L) w (w.setCell ⟨Z.B.L, i, none⟩ (.int .i64 (min (S.low i) x))) := (Mod.refl (fun k => k = Z.B.L) w).setCell (p := ⟨Z.B.L, i, none⟩) (.inl rfl) _
  have pL : Z.B.p ≠ Z.B.L := h.fin.blk.ne_ h.fin.low (by decide)
  have oL : Z.B.O ≠ Z.B.L := h.fin.on.ne_ h.fin.low (by decide)
  refine ⟨⟨h.fin.blk.mod hm pL, h.fin.num.mod hm h.fin.nl, ?_, h.fin.on.mod hm oL, h.fin.knot.mod hm h.fin.lk.symm, Ow.mod h.fin.stk hm (fun k hk e => h.fin.tl (e ▸ hk)), h.fin.nl, h.fin.nk, h.fin.lk, h.fin.tn, h.fin.tl, h.fin.tk⟩, h.qb.mod hm hZ.qL, h.qT, ?_, h.fT, ?_, h.fP⟩
  · have := h.fin.low.set_ i (.int .i64 (min (S.low i) x))
    rw [rowI_set] at this
    exact this
  · exact h.m0.then hm fun k hk e => by have := hZ.L; omega
  · exact Ow.mod h.own hm (fun k hk e => Ow.ne_blk h.own h.fin.low (by decide) (e ▸ hk))
theorem Sch.enter (hZ : Z.Ok) (h : Sch Z w T d S P cp path) {k : Nat} {T' : Option Addr} {d' : Nat} (hF : Fin w' Z.B Z.A Z.n Z.c T' d' (enterK S k)) (hm : Mod (EnF Z.B T) w w') (hT : T' = T ∨ ∃ g, T' = some ⟨g, 0, none⟩ ∧ w.heap.size ≤ g) :
    Sch Z w' T' d' (enterK S k) P cp path := by
  have hq : ¬ EnF Z.B T Z.q := by
    rintro (e | e | e | e | e)
    · exact h.qb.ne_ h.fin.blk (by decide) e
    · exact hZ.qN e
    · exact hZ.qL e
    · exact h.qb.ne_ h.fin.on (by decide) e
    · exact h.qT e
  have hsz := h.m0.size
  refine ⟨hF, h.qb.mod hm hq, ?_, ?_, ?_, ?_, h.fP⟩
  · rcases hT with rfl | ⟨g, rfl, hg⟩
    · exact h.qT
    · rintro ⟨a, ha, e⟩
      cases ha
      have := h.qb.lt
      simp only at e
      omega
  · refine h.m0.then hm fun j hj e => ?_
    rcases e with e | e | e | e | ⟨a, ha, e⟩
    · have := hZ.p; omega
    · have := hZ.N; omega
    · have := hZ.L; omega
    · have := hZ.O; omega
    · have := h.fT a ha; omega
  · rcases hT with rfl | ⟨g, rfl, hg⟩
    · exact h.fT
    · intro a ha; cases ha; simp only; omega
  · refine Ow.mod h.own hm fun j hj e => ?_
    rcases e with rfl | rfl | rfl | rfl | e
    · exact Ow.ne_blk h.own h.fin.blk (by decide) hj
    · exact Ow.ne_blk h.own h.fin.num (by decide) hj
    · exact Ow.ne_blk h.own h.fin.low (by decide) hj
    · exact Ow.ne_blk h.own h.fin.on (by decide) hj
    · exact Ow.ne_ow h.fin.stk h.own (by decide) j e hj
theorem Sch.push (h : Sch Z w T d S P cp path) {P' : Option Addr} {cp' : Nat} {x : Nat × Nat} (hO : OwP w' P' (path.length + 1) cp' (path ++ [x])) (hm : Mod (fp P) w w') (hP : P' = P ∨ P' = some ⟨w.heap.size, 0, none⟩) :
    Sch Z w' T d S P' cp' (path ++ [x]) := by
  have hf : ∀ {g : Nat} {t : TypeId} {cs : Array Value}, Blk w g t cs → 56 ≠ t → ¬ fp P g := fun hb hne => Ow.ne_blk h.own hb hne
  refine ⟨h.fin.mod hm (hf h.fin.blk (by decide)) (hf h.fin.num (by decide)) (hf h.fin.low (by decide)) (hf h.fin.on (by decide)) (hf h.fin.knot (by decide)) (fun k hk => Ow.ne_ow h.fin.stk h.own (by decide) k hk), h.qb.mod hm (hf h.qb (by decide)), h.qT, h.m0.app h.fP hm, h.fT, by simpa using hO, Fresh.app h.fP h.m0.size hP⟩
theorem Sch.pop {P0 : Path} {x : Nat × Nat} (h : Sch Z w T d S P cp (P0 ++ [x])) : Sch Z w T d S P cp P0 := by
  refine ⟨h.fin, h.qb, h.qT, h.m0, h.fT, ?_, h.fP⟩
  have := Ow.take_ h.own (k := P0.length) (by simp)
  have e : (fcs (P0 ++ [x])).take (P0.length * 2) = fcs P0 := by
    rw [fcs_app, ← fcs_len P0]; exact List.take_left
  rw [e] at this
  exact this
theorem Sch.leave (hZ : Z.Ok) (h : Sch Z w T d S P cp path) {A0 C : List Nat} (hF : Fin w' Z.B Z.A Z.n Z.c T d (popK S A0 C)) (hq : Blk w' Z.q 3 #[.int .i64 ((S.id + 1 : Nat) : Int)]) (hm : Mod (LvF Z.B Z.q) w w') :
    Sch Z w' T d (popK S A0 C) P cp path := by
  refine ⟨hF, hq, h.qT, ?_, h.fT, ?_, h.fP⟩
  · refine h.m0.then hm fun j hj e => ?_
    rcases e with e | e | e | e
    · have := hZ.p; omega
    · have := hZ.O; omega
    · have := hZ.K; omega
    · have := hZ.q; omega
  · refine Ow.mod h.own hm fun j hj e => ?_
    rcases e with rfl | rfl | rfl | rfl
    · exact Ow.ne_blk h.own h.fin.blk (by decide) hj
    · exact Ow.ne_blk h.own h.fin.on (by decide) hj
    · exact Ow.ne_blk h.own h.fin.knot (by decide) hj
    · exact Ow.ne_blk h.own h.qb (by decide) hj
end
end Go.Proofs.Ytenlpklgpcnfiaa
