/-
  Knots: rows of numbers and of truths, graphs (lists of lists of numbers) in memory.
-/
import Derived.Test.YtenlpklgpcnfiaaApp
import Derived.Test.YtenlpklgpcnfiaaCopy
import Derived.Test.YtenlpklgpcnfiaaMapS
import Derived.Test.YtenlpklgpcnfiaaKnS
namespace Go.Proofs.Ytenlpklgpcnfiaa
set_option linter.unusedVariables false
open Go.RowKit
theorem intinfo : (Try.prog.info? 3).map (fun i => (i.zero, i.size, i.bytes)) = some (some (.int .i64 0), 1, 8) := by kernel_rfl
theorem boolinfo : (Try.prog.info? 4).map (fun i => (i.zero, i.size, i.bytes)) = some (some (.bool false), 1, 1) := by kernel_rfl
def zs (l : List Nat) : List Int := l.map fun (i : Nat) => (i : Int)
theorem zs_len (l : List Nat) : (zs l).length = l.length := by simp [zs]
theorem zs_app (a b : List Nat) : zs (a ++ b) = zs a ++ zs b := by simp [zs]
theorem zs_inj {a b : List Nat} (h : zs a = zs b) : a = b := by
  induction a generalizing b with
  | nil =>
    cases b with
    | nil => rfl
    | cons y b => simp [zs] at h
  | cons x a ih =>
    cases b with
    | nil => simp [zs] at h
    | cons y b =>
      simp only [zs, List.map_cons, List.cons.injEq] at h
      rw [ih h.2, show x = y by omega]
theorem zs_get {l : List Nat} {i : Nat} (h : i < l.length) : (zs l)[i]? = some ((l[i] : Nat) : Int) := by simp [zs, h]
/-- a row of numbers of the call's own -/
def OwZ (w : World) (A : Option Addr) (n c : Nat) (l : List Int) : Prop := Ow w 3 1 A n c (ivs l)
theorem OwZ.len {w : World} {A : Option Addr} {n c : Nat} {l : List Int} (h : OwZ w A n c l) : l.length = n := by have := h.1; rw [ivs_length] at this; omega
theorem appZ {w : World} {ops : Array Oper} {rest : List Oper} {o : Oper} {a : Act} {Q : Exit → Act → World → Prop} (hgd : o.guard = none) (s x : Operand)
    (ho : o.op = .call { callee := .builtin .append, args := #[s, x], argTypes := #[28, 28] })
    {A : Option Addr} {n c : Nat} {xs : List Int} (hs : a.eval s = .slice A n c) (hown : OwZ w A n c xs)
    {S : Option Addr} {m d : Nat} {news : List Int} (hx : a.eval x = .slice S m d) (hr : RdI w S m news) (hb : (n + m) * 8 ≤ 140737488355328)
    (h : ∀ A' c' w', OwZ w' A' (n + m) c' (xs ++ news) → Mod (fp A) w w' → (A' = A ∨ A' = some ⟨w.heap.size, 0, none⟩) → wpList Try.prog ops Q rest (a.put o.dst (.slice A' (n + m) c')) w') : wpList Try.prog ops Q (o :: rest) a w := by
  obtain ⟨i0, hi, hz0, hz1, hz2⟩ := info_parts intinfo
  refine wpList_append_ow hgd s x 28 ho 3 i0 _ 1 8 Try.underlying28 hi hz0 hz1 hz2 rfl (by omega) A n c (ivs xs) hs hown S m d (ivs news) hx hr (ivs_one _) (by omega) (by omega) ?_
  intro A' c' w' h1
  rw [← ivs_append] at h1
  exact h A' c' w' h1
theorem step_appZ {w : World} {ops : Array Oper} {o : Oper} {a : Act} {K : Act → World → Prop} {Q : Exit → Act → World → Prop} {X : Prop} (hgd : o.guard = none) (s x : Operand)
    (ho : o.op = .call { callee := .builtin .append, args := #[s, x], argTypes := #[28, 28] })
    {A : Option Addr} {n c : Nat} {xs : List Int} (hs : a.eval s = .slice A n c) (hown : OwZ w A n c xs)
    {S : Option Addr} {m d : Nat} {news : List Int} (hx : a.eval x = .slice S m d) (hr : RdI w S m news) (hb : (n + m) * 8 ≤ 140737488355328)
    (h : ∀ A' c' w', OwZ w' A' (n + m) c' (xs ++ news) → Mod (fp A) w w' → (A' = A ∨ A' = some ⟨w.heap.size, 0, none⟩) → K (a.put o.dst (.slice A' (n + m) c')) w') :
    if Region.wanted o (yielded ops a.tmps) = true then Oper.wp Try.prog o a w K Q else X := by
  obtain ⟨i0, hi, hz0, hz1, hz2⟩ := info_parts intinfo
  refine step_append_ow hgd s x 28 ho 3 i0 _ 1 8 Try.underlying28 hi hz0 hz1 hz2 rfl (by omega) A n c (ivs xs) hs hown S m d (ivs news) hx hr (ivs_one _) (by omega) (by omega) ?_
  intro A' c' w' h1
  rw [← ivs_append] at h1
  exact h A' c' w' h1
theorem rdi_one' (w : World) (e : TypeId) (g : Nat) (hg : g = w.heap.size) (x : Int) : RdI (w.alloc (.cells #[.int .i64 x] e)) (some ⟨g, 0, none⟩) 1 [x] :=
  rdn w e 1 1 g #[.int .i64 x] (0, 0) hg rfl
theorem rdi_get {w : World} {A : Option Addr} {n : Nat} {xs : List Int} (h : RdI w A n xs) {j : Nat} (hj : j < n) : ∃ b o, A = some ⟨b, o, none⟩ ∧ ∃ hl : j < xs.length, w.cell? ⟨b, o + j, none⟩ = some (.int .i64 xs[j]) := by
  obtain ⟨b, o, e, hc⟩ := Rd.form h (by omega) (by omega)
  have hl : j < xs.length := by rw [h.len]; exact hj
  exact ⟨b, o, e, hl, hc j _ (ivs_get hl)⟩
/-- .. of blocks known whole -/
def rowI (n : Nat) (f : Nat → Int) : Array Value := ((List.range n).map fun i => Value.int .i64 (f i)).toArray
def rowT (n : Nat) (f : Nat → Bool) : Array Value := ((List.range n).map fun i => Value.bool (f i)).toArray
theorem rowI_size (n : Nat) (f : Nat → Int) : (rowI n f).size = n := by simp [rowI]
theorem rowT_size (n : Nat) (f : Nat → Bool) : (rowT n f).size = n := by simp [rowT]
theorem rowI_get {n : Nat} (f : Nat → Int) {i : Nat} (h : i < n) : (rowI n f)[i]? = some (.int .i64 (f i)) := by simp [rowI, h]
theorem rowT_get {n : Nat} (f : Nat → Bool) {i : Nat} (h : i < n) : (rowT n f)[i]? = some (.bool (f i)) := by simp [rowT, h]
theorem range_set {α β : Type} (n : Nat) (f : Nat → α) (G : α → β) (i : Nat) (x : α) : ((List.range n).map fun j => G (f j)).set i (G x) = (List.range n).map fun j => G (upd f i x j) := by
  apply List.ext_getElem?
  intro j
  rw [List.getElem?_set, List.getElem?_map, List.getElem?_map, List.length_map, List.length_range]
  by_cases hj : j < n
  · rw [List.getElem?_range hj]
    by_cases e : i = j
    · subst e; simp [hj, upd]
    · rw [if_neg e]; simp [upd_ne _ _ (Ne.symm e)]
  · rw [List.getElem?_eq_none (by simpa using hj)]
    by_cases e : i = j
    · subst e; simp [hj]
    · simp [e]
theorem rowI_set (n : Nat) (f : Nat → Int) (i : Nat) (x : Int) : (rowI n f).setIfInBounds i (.int .i64 x) = rowI n (upd f i x) := by
  unfold rowI
  rw [List.setIfInBounds_toArray, range_set n f (fun x => Value.int .i64 x)]
theorem rowT_set (n : Nat) (f : Nat → Bool) (i : Nat) (x : Bool) : (rowT n f).setIfInBounds i (.bool x) = rowT n (upd f i x) := by
  unfold rowT
  rw [List.setIfInBounds_toArray, range_set n f (fun x => Value.bool x)]
theorem made_rowI (n : Nat) : madeCells #[.int .i64 0] n = rowI n fun _ => 0 := by
  apply Array.ext'
  simp [madeCells, rowI, Nat.mod_one]
theorem made_rowT (n : Nat) : madeCells #[.bool false] n = rowT n fun _ => false := by
  apply Array.ext'
  simp [madeCells, rowT, Nat.mod_one]
/-- a graph in memory -/
def RdG (w : World) (A : Option Addr) (n : Nat) (ss : List SV) (g : List (List Int)) : Prop :=
  Rd w 1 A n (ss.map SV.v) ∧ ss.length = g.length ∧ ∀ (i : Nat) (s : SV) (l : List Int), ss[i]? = some s → g[i]? = some l → RdI w s.a s.n l ∧ s.n ≤ s.c ∧ s.n ≤ 140737488355328
theorem RdG.len {w : World} {A : Option Addr} {n : Nat} {ss : List SV} {g : List (List Int)} (h : RdG w A n ss g) : g.length = n := by
  have h1 := h.1.1
  rw [List.length_map] at h1
  have := h.2.1
  omega
theorem RdG.mod0 {w w' : World} {A : Option Addr} {n : Nat} {ss : List SV} {g : List (List Int)} (h : RdG w A n ss g) (hm : Mod none_ w w') : RdG w' A n ss g :=
  ⟨Rd.mod0 h.1 hm, h.2.1, fun i s l hs hl => ⟨Rd.mod0 (h.2.2 i s l hs hl).1 hm, (h.2.2 i s l hs hl).2⟩⟩
theorem RdG.get {w : World} {A : Option Addr} {n : Nat} {ss : List SV} {g : List (List Int)} (h : RdG w A n ss g) {j : Nat} (hj : j < n) :
    ∃ b o B k c l, A = some ⟨b, o, none⟩ ∧ w.cell? ⟨b, o + j, none⟩ = some (.slice B k c) ∧ g[j]? = some l ∧ RdI w B k l ∧ k ≤ c ∧ k ≤ 140737488355328 := by
  obtain ⟨b, o, e, hc⟩ := Rd.form h.1 (show 0 < n by omega) (by omega)
  have hl := h.len
  have hs := h.2.1
  have hjs : j < ss.length := by omega
  have hjl : j < g.length := by omega
  have h1 := hc j (.slice ss[j].a ss[j].n ss[j].c) (by rw [List.getElem?_map, List.getElem?_eq_getElem hjs]; rfl)
  have h2 := h.2.2 j ss[j] g[j] (List.getElem?_eq_getElem hjs) (List.getElem?_eq_getElem hjl)
  exact ⟨b, o, ss[j].a, ss[j].n, ss[j].c, g[j], e, h1, List.getElem?_eq_getElem hjl, h2⟩
/-- a graph that the call makes -/
def OwG (w : World) (G : Option Addr) (m c : Nat) (ss : List SV) (g : List (List Int)) : Prop :=
  Ow w 28 1 G m c (ss.map SV.v) ∧ ss.length = g.length ∧ ∀ (i : Nat) (s : SV) (l : List Int), ss[i]? = some s → g[i]? = some l → RdI w s.a s.n l ∧ s.n ≤ s.c ∧ s.n ≤ 140737488355328 ∧ (0 < s.n → ∀ k, fp s.a k → ¬ fp G k)
section
variable {w w' : World} {G : Option Addr} {m c : Nat} {ss : List SV} {g : List (List Int)}
theorem OwG.nil (w : World) : OwG w none 0 0 [] [] := ⟨Ow.nil _ _ _, rfl, fun i s l hs _ => by simp at hs⟩
theorem OwG.len (h : OwG w G m c ss g) : g.length = m := by
  have h1 := h.1.1
  rw [List.length_map] at h1
  have := h.2.1
  omega
theorem OwG.mod0 (h : OwG w G m c ss g) (hm : Mod none_ w w') : OwG w' G m c ss g :=
  ⟨Ow.mod0 h.1 hm, h.2.1, fun i s l hs hl => ⟨Rd.mod0 (h.2.2 i s l hs hl).1 hm, (h.2.2 i s l hs hl).2⟩⟩
theorem OwG.rd (h : OwG w G m c ss g) : RdG w G m ss g := ⟨Ow.rd h.1, h.2.1, fun i s l hs hl => ⟨(h.2.2 i s l hs hl).1, (h.2.2 i s l hs hl).2.1, (h.2.2 i s l hs hl).2.2.1⟩⟩
theorem OwG.push (h : OwG w G m c ss g) {s : SV} {l : List Int} (h1 : RdI w s.a s.n l) (h2 : s.n ≤ s.c) (h2b : s.n ≤ 140737488355328) (h3 : 0 < s.n → ∀ k, fp s.a k → ¬ fp G k) {w1 : World} {G' : Option Addr} {c' : Nat} (hown : Ow w1 28 1 G' (m + 1) c' ((ss ++ [s]).map SV.v))
    (hm : Mod (fp G) w w1) (hA : G' = G ∨ ∃ b, G' = some ⟨b, 0, none⟩ ∧ w.heap.size ≤ b) : OwG w1 G' (m + 1) c' (ss ++ [s]) (g ++ [l]) := by
  have key : ∀ (s : SV) (l : List Int), RdI w s.a s.n l → (0 < s.n → ∀ k, fp s.a k → ¬ fp G k) → RdI w1 s.a s.n l ∧ (0 < s.n → ∀ k, fp s.a k → ¬ fp G' k) := by
    intro s l h1 h3
    refine ⟨Rd.mod' h1 hm h3, fun h0 k hk => ?_⟩
    rcases hA with rfl | ⟨b, rfl, hb⟩
    · exact h3 h0 k hk
    · rintro ⟨a, ha, rfl⟩
      cases ha
      have := Rd.lt h1 h0 _ hk
      simp only at this
      omega
  refine ⟨hown, by simp [h.2.1], fun i s' l' hs hl => ?_⟩
  by_cases hi : i < ss.length
  · rw [List.getElem?_append_left hi] at hs
    rw [List.getElem?_append_left (by rw [← h.2.1]; exact hi)] at hl
    have := h.2.2 i s' l' hs hl
    have k2 := key s' l' this.1 this.2.2.2
    exact ⟨k2.1, this.2.1, this.2.2.1, k2.2⟩
  · rw [List.getElem?_append_right (by omega)] at hs
    rw [List.getElem?_append_right (by rw [← h.2.1]; omega), ← h.2.1] at hl
    have e : i - ss.length = 0 := by
      rcases Nat.lt_or_ge (i - ss.length) 1 with h5 | h5
      · omega
      · rw [List.getElem?_eq_none (by simpa using h5)] at hs; cases hs
    rw [e] at hs hl
    simp at hs hl
    subst hs hl
    have k2 := key s l h1 h3
    exact ⟨k2.1, h2, h2b, k2.2⟩
end
theorem slginfo : (Try.prog.info? 28).map (fun i => (i.zero, i.size, i.bytes)) = some (some (.slice none 0 0), 1, 24) := by kernel_rfl
theorem svs_one (ss : List SV) : ∀ u ∈ ss.map SV.v, u.oneCell' = true := by
  intro u hu
  obtain ⟨s, _, rfl⟩ := List.mem_map.1 hu
  rfl
theorem appG {w : World} {ops : Array Oper} {rest : List Oper} {o : Oper} {a : Act} {Q : Exit → Act → World → Prop} (hgd : o.guard = none) (s x : Operand)
    (ho : o.op = .call { callee := .builtin .append, args := #[s, x], argTypes := #[22, 22] })
    {A : Option Addr} {n c : Nat} {xs : List SV} (hs : a.eval s = .slice A n c) (hown : Ow w 28 1 A n c (xs.map SV.v))
    {S : Option Addr} {m d : Nat} {news : List SV} (hx : a.eval x = .slice S m d) (hr : Rd w 1 S m (news.map SV.v)) (hb : (n + m) * 24 ≤ 140737488355328)
    (h : ∀ A' c' w', Ow w' 28 1 A' (n + m) c' ((xs ++ news).map SV.v) → Mod (fp A) w w' → (A' = A ∨ A' = some ⟨w.heap.size, 0, none⟩) → wpList Try.prog ops Q rest (a.put o.dst (.slice A' (n + m) c')) w') : wpList Try.prog ops Q (o :: rest) a w := by
  obtain ⟨i0, hi, hz0, hz1, hz2⟩ := info_parts slginfo
  refine wpList_append_ow hgd s x 22 ho 28 i0 _ 1 24 Try.underlying22 hi hz0 hz1 hz2 rfl (by omega) A n c (xs.map SV.v) hs hown S m d (news.map SV.v) hx hr (svs_one _) (by omega) (by omega) ?_
  intro A' c' w' h1
  rw [← List.map_append] at h1
  exact h A' c' w' h1
theorem rds_one (w : World) (g : Nat) (hg : g = w.heap.size) (e : TypeId) (s : SV) : Rd (w.alloc (.cells #[.slice s.a s.n s.c] e)) 1 (some ⟨g, 0, none⟩) 1 ([s].map SV.v) :=
  rdn w e 1 1 g #[.slice s.a s.n s.c] (0, 0) hg rfl
end Go.Proofs.Ytenlpklgpcnfiaa
