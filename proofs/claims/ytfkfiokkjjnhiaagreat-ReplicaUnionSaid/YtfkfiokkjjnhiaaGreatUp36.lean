import Derived.Test.YtfkfiokkjjnhiaaGreatUp35
set_option linter.unusedVariables false
set_option linter.unusedSimpArgs false
set_option maxHeartbeats 16000000
namespace Go.Proofs.YtfkfiokkjjnhiaaGreat
open Go.RowKit
theorem rdm_get {w : World} {A : Option Addr} {n : Nat} {xs : List Ms} (h : RdM w A n xs) {j : Nat} (hj : j < n) : ∃ b o x, A = some ⟨b, o, none⟩ ∧ x ∈ xs ∧ xs[j]? = some x ∧ w.rangeAt b (o + j * 20) (msC x) := by
 have hl : xs.length = n := by have := h.1; rw [mss_length] at this; omega
 obtain ⟨b, o, e, hc⟩ := Rd.form h (show 0 < n by omega) (by omega)
 have hjl : j < xs.length := by omega
 have hg := flat_get msC 20 (fun _ => rfl) xs j xs[j] (List.getElem?_eq_getElem hjl)
 refine ⟨b, o, xs[j], e, List.getElem_mem hjl, List.getElem?_eq_getElem hjl, fun i v hv => ?_⟩
 have hi : i < 20 := by
  rcases Nat.lt_or_ge i 20 with h1 | h1
  ·exact h1
  ·rw [List.getElem?_eq_none (by simpa [msC] using h1)] at hv; cases hv
 rw [Nat.add_assoc]
 exact hc (j * 20 + i) v ((hg i hi).trans hv)
theorem RdM.len {w : World} {A : Option Addr} {n : Nat} {xs : List Ms} (h : RdM w A n xs) : xs.length = n := by have := h.1; rw [mss_length] at this; omega
theorem mss_drop (xs : List Ms) (k : Nat) (hk : k ≤ xs.length) : (mss xs).drop (k * 20) = mss (xs.drop k) := by
 have h0 : mss xs = mss (xs.take k) ++ mss (xs.drop k) := by rw [← mss_append, List.take_append_drop]
 rw [h0]
 have hl : (mss (xs.take k)).length = k * 20 := by rw [mss_length, List.length_take, Nat.min_eq_left hk]
 rw [List.drop_append, hl, List.drop_of_length_le (by omega)]
 simp
theorem rdM_drop {w : World} {A : Option Addr} {n c : Nat} {xs : List Ms} (h : RdM w A n xs) {k : Nat} (hk : k ≤ n) (hc : n ≤ c) : RdM w (if c = k then A else A.map (·.add (k * 20))) (n - k) (xs.drop k) := by
 have := Rd.drop_ h hk hc
 rw [mss_drop xs k (by rw [RdM.len h]; exact hk)] at this
 exact this
structure NetS (w : World) (col : Col) (nb : Nat) (RA DA : Option Addr) (rc dc : Nat) (MA : Option Addr) (mn mc : Nat) (ms : List Ms) (b : Nat → RpB) (X : Nat → RpS) : Prop where
 net : Blk w nb 45 #[.slice RA 3 rc, .slice DA 3 dc, .slice MA mn mc]
 cn : col nb = (3, 0)
 R : Ow w 48 1 RA 3 rc (ptrs b 3)
 cR : ∀ k, fp RA k → col k = (3, 1)
 M : RdM w MA mn ms
 cap : mn ≤ mc
 r : ∀ i, i < 3 → RpM w col i (b i) (i : Int) 3 (X i)
def setF {α : Type} (f : Nat → α) (i : Nat) (x : α) : Nat → α := fun j => if j = i then x else f j
def Still (G : Col → World → Prop) : Prop := ∀ c w1 c' w2 F, G c w1 → Ext w1 c c' → Mod F w1 w2 → (∀ j, j < w1.heap.size → F j → (c j).1 ≠ 51) → G c' w2
def TkPost (W : World) (c1 : Col) (i : Nat) (bi : RpB) (P : List Ms → RpS → Col → World → Prop) (e : Ending) (w' : World) : Prop :=
 ∃ A m c l X' c2, e = .returned (.tuple #[.slice A m c, .int .i64 0]) ∧ RdM w' A m l ∧ m ≤ 2 ∧ RpM w' c2 i bi (i : Int) 3 X' ∧ P l X' c2 w' ∧ Ext W c1 c2 ∧ Mod (owns c1 i) W w'
set_option maxRecDepth 100000
theorem deliver_ok (w : World) (col : Col) (nb : Nat) (RA DA : Option Addr) (rc dc : Nat) (MA : Option Addr) (mn mc : Nat) (m : Ms) (ms : List Ms) (b : Nat → RpB) (X : Nat → RpS) (h : NetS w col nb RA DA rc dc MA (mn + 1) mc (m :: ms) b X) (hmn : mn ≤ 10)
  (i : Nat) (hi : i < 3) (hto : m.m.to = (i : Int)) (G : Col → World → Prop) (hG : G col w) (hGs : Still G) (P : List Ms → RpS → Col → World → Prop) (hPs : ∀ l X, Still (P l X))
  (hT : ∀ W c1, RpM W c1 i (b i) (i : Int) 3 (X i) → G c1 W → (∀ j, W.heap.size ≤ j → c1 j = (99, 0)) → Calls Tryz.prog 68 #[.pointer (some ⟨(b i).q, 0, none⟩), .agg #[.int .i64 m.m.frm, .int .i64 m.m.to, .int .i64 m.m.kind, .int .i64 m.m.r.i.r, .int .i64 m.m.r.i.n, .int .i64 m.m.r.bal, .int .i64 m.m.r.st, .int .i64 m.m.r.by_, .int .i64 m.m.r.e.o.c, .int .i64 m.m.r.e.o.s, .int .i64 m.m.r.e.o.k, .string (txt m.m.r.e.o.acct), .string (txt m.m.r.e.o.peer), .int .i64 m.m.r.e.o.sum, .slice m.L.a m.L.n m.L.c, .int .i64 m.m.r.e.o.per, .int .i64 m.m.r.e.o.hold, .string (txt m.m.r.e.o.note), .bool m.m.r.e.none, .slice m.D.a m.D.n m.D.c]] W (TkPost W c1 i (b i) P)) :
  Calls Tryz.prog 37 #[.pointer (some ⟨nb, 0, none⟩), .int .i64 0, .bool false] w fun e w' =>
   e = .returned (.tuple #[]) ∧ ∃ MA' mn' mc' l X' c', NetS w' c' nb RA DA rc dc MA' mn' mc' (ms ++ l) b (setF X i X') ∧ P l X' c' w' ∧ Ext w col c' ∧ Mod (fun j => (col j).1 < 55) w w' := by
 obtain ⟨bM, oM, x, hMA, _, hx, hrg⟩ : ∃ bM oM x, MA = some ⟨bM, oM, none⟩ ∧ x ∈ (m :: ms) ∧ (m :: ms)[0]? = some x ∧ w.rangeAt bM (oM + 0 * 20) (msC x) := rdm_get h.M (by omega)
 obtain rfl : m = x := by simpa using hx
 subst hMA
 have hnet := h.net
 have ln := hnet.lt
 have n2 : w.cell? ⟨nb, 2, none⟩ = some (.slice (some ⟨bM, oM, none⟩) (mn + 1) mc) := hnet.cell_ rfl
 rw [Nat.zero_mul] at hrg
 unfold msC at hrg
 have hz := zH (Blk.new w 66 #[.int .i64 0, .int .i64 0, .int .i64 0, .int .i64 0, .int .i64 0, .int .i64 0, .int .i64 0, .int .i64 0, .int .i64 0, .int .i64 0, .int .i64 0, .string ⟨#[]⟩, .string ⟨#[]⟩, .int .i64 0, .slice none 0 0, .int .i64 0, .int .i64 0, .string ⟨#[]⟩, .bool false, .slice none 0 0])
 have hcap := h.cap
 clear hx
 replace h := zH h
 replace hnet := zH hnet
 replace hrg := zH hrg
 replace hto := zH hto
 replace hG := zH hG
 replace hGs := zH hGs
 replace hPs := zH hPs
 replace hT := zH hT
 go_enter Tryz.func37, Tryz.ntmps37
 go_upto_region 2 with (first
  | (refine wpList_load_mid rfl 66 (.tmp 14) rfl bM oM rfl _ _ hrg.out Tryz.underlying66 rfl msg_size ?_)
  | (refine wpList_store_blk rfl 66 (.tmp 6) (.tmp 15) rfl w.heap.size 0 _ rfl rfl hz.out (by simp) msg_size (by rfl) #[.int .i64 m.m.frm, .int .i64 m.m.to, .int .i64 m.m.kind, .int .i64 m.m.r.i.r, .int .i64 m.m.r.i.n, .int .i64 m.m.r.bal, .int .i64 m.m.r.st, .int .i64 m.m.r.by_, .int .i64 m.m.r.e.o.c, .int .i64 m.m.r.e.o.s, .int .i64 m.m.r.e.o.k, .string (txt m.m.r.e.o.acct), .string (txt m.m.r.e.o.peer), .int .i64 m.m.r.e.o.sum, .slice m.L.a m.L.n m.L.c, .int .i64 m.m.r.e.o.per, .int .i64 m.m.r.e.o.hold, .string (txt m.m.r.e.o.note), .bool m.m.r.e.none, .slice m.D.a m.D.n m.D.c] rfl ?_; intro w1 hb1 hm1; go_frame))
 have hm1' := zH (((Mod.refl none_ w).alloc (.cells #[.int .i64 0, .int .i64 0, .int .i64 0, .int .i64 0, .int .i64 0, .int .i64 0, .int .i64 0, .int .i64 0, .int .i64 0, .int .i64 0, .int .i64 0, .string ⟨#[]⟩, .string ⟨#[]⟩, .int .i64 0, .slice none 0 0, .int .i64 0, .int .i64 0, .string ⟨#[]⟩, .bool false, .slice none 0 0] 66)).in_new (g := w.heap.size) (Nat.le_refl _) hm1)
 have hnet1 := zH (hnet.out.mod hm1'.out (fun h => h))
 have hMd1 := zH (Rd.mod0 h.out.M hm1'.out)
 clear hm1 hz hrg n2 ln
 replace hb1 := zH hb1
 have hnet1o := hnet1.out
 have n1 : w1.cell? ⟨nb, 2, none⟩ = some (.slice (some ⟨bM, oM, none⟩) (mn + 1) mc) := hnet1o.cell_ rfl
 have ln1 := hnet1o.lt
 obtain ⟨i0, hi0, hz0, hz1, hz2⟩ := info_parts msinfo
 clear hnet1o
 go_cut [6] from 18 to 35 (fun s6 wx => s6 = .pointer (some ⟨w.heap.size, 0, none⟩) ∧ ∃ A8 c8, Blk wx nb 45 #[.slice RA 3 rc, .slice DA 3 dc, .slice A8 mn c8] ∧ OwM wx A8 mn c8 ms ∧ (∀ q, fp A8 q → w1.heap.size ≤ q) ∧ Mod (only nb) w1 wx)
 case first =>
  refine wp_region_held_drew (S := fun W => Mod (only nb) w1 W) (by kernel_rfl) (Mod.refl (only nb) w1).drew (fun hHeld => ?_)
  refine tkZ 0 ?_ rfl ?_ ?_
  rotate_left
  ·intro W hSw; (try dsimp only at hSw); go_simp; (try with_reducible rfl)
  try simp only [Act.put, q1Z, q2Z, q3Z, q4Z, q5Z, q6Z]
  refine tkZ 1 ?_ rfl ?_ ?_
  rotate_left
  ·intro W hSw; (try dsimp only at hSw); go_simp; (try with_reducible rfl)
  try simp only [Act.put, q1Z, q2Z, q3Z, q4Z, q5Z, q6Z]
  refine tkZ 2 ?_ rfl ?_ ?_
  rotate_left
  ·intro W hSw; (try dsimp only at hSw); go_simp; (try with_reducible rfl)
  try simp only [Act.put, q1Z, q2Z, q3Z, q4Z, q5Z, q6Z]
  refine tkZ 3 ?_ rfl ?_ ?_
  rotate_left
  ·intro W hSw; (try dsimp only at hSw); go_simp; (try with_reducible rfl)
  try simp only [Act.put, q1Z, q2Z, q3Z, q4Z, q5Z, q6Z]
  refine tkZ 5 ?_ rfl ?_ ?_
  rotate_left
  ·intro W hSw; (try dsimp only at hSw); go_simp; (try with_reducible rfl)
  try simp only [Act.put, q1Z, q2Z, q3Z, q4Z, q5Z, q6Z]
  refine tkZ 8 ?_ rfl ?_ ?_
  rotate_left
  ·intro W hSw; (try dsimp only at hSw); go_simp; (try with_reducible rfl)
  try simp only [Act.put, q1Z, q2Z, q3Z, q4Z, q5Z, q6Z]
  refine tkZ 9 ?_ rfl ?_ ?_
  rotate_left
  ·intro W hSw; (try dsimp only at hSw); go_simp; (try with_reducible rfl)
  try simp only [Act.put, q1Z, q2Z, q3Z, q4Z, q5Z, q6Z]
  refine tkZ 10 ?_ rfl ?_ ?_
  rotate_left
  ·intro W hSw; (try dsimp only at hSw); go_simp; (try with_reducible rfl)
  try simp only [Act.put, q1Z, q2Z, q3Z, q4Z, q5Z, q6Z]
  refine tkZ 12 ?_ rfl ?_ ?_
  rotate_left
  ·intro W hSw; (try dsimp only at hSw); go_simp; (try with_reducible rfl)
  try simp only [Act.put, q1Z, q2Z, q3Z, q4Z, q5Z, q6Z]
  refine tkZ 13 ?_ rfl ?_ ?_
  rotate_left
  ·intro W hSw; (try dsimp only at hSw); go_simp; (try with_reducible rfl)
  try simp only [Act.put, q1Z, q2Z, q3Z, q4Z, q5Z, q6Z]
  obtain ⟨At, hAt⟩ : ∃ At : Option Addr, At = (if mc = 1 then some ⟨bM, oM, none⟩ else some ⟨bM, oM + 20, none⟩) := ⟨_, rfl⟩
  replace hAt := zH hAt
  have hMt := zH (show Rd w1 20 At mn (mss ms) from by
   rw [hAt.out]
   have := rdM_drop hMd1.out (k := 1) (c := mc) (by omega) (by omega)
   have e9 : (Option.map (fun x : Addr => x.add (1 * 20)) (some ⟨bM, oM, none⟩)) = some ⟨bM, oM + 20, none⟩ := rfl
   rw [e9] at this
   exact this)
  refine wpAnyH_ready (rs := [4, 11]) (by kernel_rfl) (by simp) ?_
  refine AllReadyH.cons rfl (fun K hK => ?_) (AllReadyH.cons rfl (fun K hK => ?_) AllReadyH.nil)
  focus
   go_simp
   refine hK.out _ _ ((Mod.refl (only nb) w1).drew) (fun hHeld => ?_)
   clear hK K
   try simp only [Act.put, q1Z, q2Z, q3Z, q4Z, q5Z, q6Z]
   refine tkZ 6 ?_ rfl ?_ ?_
   rotate_left
   ·intro W hSw; (try dsimp only at hSw); go_simp; (try with_reducible rfl)
   try simp only [Act.put, q1Z, q2Z, q3Z, q4Z, q5Z, q6Z]
   refine wpAnyH_ready (rs := [7, 11]) (by kernel_rfl) (by simp) ?_
   refine AllReadyH.cons rfl (fun K hK => ?_) (AllReadyH.cons rfl (fun K hK => ?_) AllReadyH.nil)
   focus
    refine step_append_ow (by rfl) (.const (.slice none 0 0)) (.tmp 24) 43 (by rfl) 66 i0 _ 20 216 Tryz.underlying43 hi0 hz0 hz1 hz2 rfl (by omega) none 0 0 [] (by rfl) (Ow.nil _ _ _) (some ⟨bM, oM, none⟩) 0 mc [] (by rfl) rd_zero (fun u hu => by cases hu) (by omega) (by omega) ?_
    intro A7 c7 w7 ho7 hm7 hA7
    have hm7' : Mod none_ w1 w7 := (Mod.refl none_ w1).drew.trans (hm7.mono (fun q ⟨a, ha, _⟩ => by cases ha))
    have n7 : w7.cell? ⟨nb, 2, none⟩ = some (.slice (some ⟨bM, oM, none⟩) (mn + 1) mc) := hm7'.cell_some n1 (fun h => h)
    have ln7 := World.block_lt_of_cell? w7 _ n7
    dsimp only at ln7
    refine hK.out _ _ ((hm7'.any _)) (fun hHeld => ?_)
    clear hK K
    try simp only [Act.put, q1Z, q2Z, q3Z, q4Z, q5Z, q6Z]
    refine rdZ 11 rfl (fun K hK => ?_)
    go_simp
    refine hK.out _ _ ((hm7'.any _)) (fun hHeld => ?_)
    clear hK K
    try simp only [Act.put, q1Z, q2Z, q3Z, q4Z, q5Z, q6Z]
    refine tkZ 14 ?_ rfl ?_ ?_
    rotate_left
    ·intro W hSw; have hw1 : IntKind.i64.wrap 1 = 1 := (by decide); have hle1 : (1 : Int) ≤ (mn : Int) + 1 := (by omega); go_simp; (try with_reducible rfl)
    try simp only [Act.put, q1Z, q2Z, q3Z, q4Z, q5Z, q6Z]
    rw [← hAt.out]
    refine rdZ 15 rfl (fun K hK => ?_)
    refine step_append_ow (by rfl) (.tmp 25) (.tmp 32) 43 (by rfl) 66 i0 _ 20 216 Tryz.underlying43 hi0 hz0 hz1 hz2 rfl (by omega) A7 0 c7 [] (by rfl) ho7 At mn (mc - 1) (mss ms) (by rfl) (Rd.mod0 hMt.out hm7') (mss_one _) (by omega) (by omega) ?_
    intro A8 c8 w8 ho8 hm8 hA8
    have hA7n : ∀ q, fp A7 q → w1.heap.size ≤ q := by
     rintro q ⟨a, ha, rfl⟩
     rcases hA7 with rfl | rfl <;> cases ha
     exact Nat.le_refl _
    have hm8' : Mod none_ w1 w8 := hm7'.then hm8 (fun q hq hh => by have := hA7n q hh; omega)
    have hF8 : ∀ q, fp A8 q → w1.heap.size ≤ q := by
     intro q hq
     rcases hA8 with rfl | rfl
     ·exact hA7n q hq
     ·obtain ⟨a, ha, rfl⟩ := hq
      cases ha
      exact hm7'.size
    have hnet8 := hnet1.out.mod hm8' (fun h => h)
    have n8 : w8.cell? ⟨nb, 2, none⟩ = some (.slice (some ⟨bM, oM, none⟩) (mn + 1) mc) := hnet8.cell_ rfl
    have f8 := hnet8.frozen 2
    have ln8 := hnet8.lt
    refine hK.out _ _ ((hm8'.any _)) (fun hHeld => ?_)
    clear hK K
    try simp only [Act.put, q1Z, q2Z, q3Z, q4Z, q5Z, q6Z]
    refine tkZ 16 ?_ rfl ?_ ?_
    rotate_left
    ·intro W hSw; (try dsimp only at hSw); go_simp; (try with_reducible rfl)
    try simp only [Act.put, q1Z, q2Z, q3Z, q4Z, q5Z, q6Z]
    refine tkZ 17 ?_ rfl ?_ ?_
    rotate_left
    ·intro W hSw; (try dsimp only at hSw); go_simp; (try with_reducible rfl)
    try simp only [Act.put, q1Z, q2Z, q3Z, q4Z, q5Z, q6Z]
    have hnet9 := hnet8.set_ 2 (.slice A8 mn c8)
    simp only [List.setIfInBounds_toArray, List.set_cons_zero, List.set_cons_succ] at hnet9
    obtain ⟨w9, hw9⟩ : ∃ w9, w9 = w8.setCell ⟨nb, 2, none⟩ (.slice A8 mn c8) := ⟨_, rfl⟩
    have hm89 : Mod (only nb) w8 w9 := by rw [hw9]; exact Mod.setCell (Mod.refl (only nb) w8) (p := ⟨nb, 2, none⟩) (.inl rfl) _
    rw [← hw9] at hnet9
    have hm9 := (hm8'.any (only nb)).trans hm89
    have ho9 : OwM w9 A8 mn c8 ms := by
     have := Ow.mod ho8 hm89 (fun q hq hh => Ow.ne_blk ho8 hnet8 (by decide) (by have e2 : q = nb := hh; rwa [e2] at hq))
     rw [Nat.zero_add, List.nil_append] at this; exact this
    replace hw9 := zH hw9
    replace hnet8 := zH hnet8
    replace hnet9 := zH hnet9
    replace hm89 := zH hm89
    replace ho9 := zH ho9
    replace hm9 := zH hm9
    refine rdZ 18 rfl (fun K hK => ?_)
    go_simp
    first | rw [← hw9.out] | skip
    refine hK.out _ _ (hm9.out) (fun hHeld => ?_)
    clear hK K
    try simp only [Act.put, q1Z, q2Z, q3Z, q4Z, q5Z, q6Z]
    refine wpAnyH_done (by kernel_rfl) ?_ _
    clear hHeld
    have hF8' := zH hF8
    clear ho7 hm7 hA7 ho8 hm8 hA8 hA7n hm8' n8 f8 ln8 hm7' hF8
    go_wp2_with fail
    all_goals go_meet
    exact ⟨rfl, A8, c8, hnet9.out, ho9.out, hF8'.out, hm9.out⟩
   focus
    go_simp
    refine hK.out _ _ ((Mod.refl (only nb) w1).drew) (fun hHeld => ?_)
    clear hK K
    try simp only [Act.put, q1Z, q2Z, q3Z, q4Z, q5Z, q6Z]
    refine tkZ 14 ?_ rfl ?_ ?_
    rotate_left
    ·intro W hSw; have hw1 : IntKind.i64.wrap 1 = 1 := (by decide); have hle1 : (1 : Int) ≤ (mn : Int) + 1 := (by omega); go_simp; (try with_reducible rfl)
    try simp only [Act.put, q1Z, q2Z, q3Z, q4Z, q5Z, q6Z]
    rw [← hAt.out]
    refine rdZ 7 rfl (fun K hK => ?_)
    refine step_append_ow (by rfl) (.const (.slice none 0 0)) (.tmp 24) 43 (by rfl) 66 i0 _ 20 216 Tryz.underlying43 hi0 hz0 hz1 hz2 rfl (by omega) none 0 0 [] (by rfl) (Ow.nil _ _ _) (some ⟨bM, oM, none⟩) 0 mc [] (by rfl) rd_zero (fun u hu => by cases hu) (by omega) (by omega) ?_
    intro A7 c7 w7 ho7 hm7 hA7
    have hm7' : Mod none_ w1 w7 := (Mod.refl none_ w1).drew.trans (hm7.mono (fun q ⟨a, ha, _⟩ => by cases ha))
    have n7 : w7.cell? ⟨nb, 2, none⟩ = some (.slice (some ⟨bM, oM, none⟩) (mn + 1) mc) := hm7'.cell_some n1 (fun h => h)
    have ln7 := World.block_lt_of_cell? w7 _ n7
    dsimp only at ln7
    refine hK.out _ _ ((hm7'.any _)) (fun hHeld => ?_)
    clear hK K
    try simp only [Act.put, q1Z, q2Z, q3Z, q4Z, q5Z, q6Z]
    refine rdZ 15 rfl (fun K hK => ?_)
    refine step_append_ow (by rfl) (.tmp 25) (.tmp 32) 43 (by rfl) 66 i0 _ 20 216 Tryz.underlying43 hi0 hz0 hz1 hz2 rfl (by omega) A7 0 c7 [] (by rfl) ho7 At mn (mc - 1) (mss ms) (by rfl) (Rd.mod0 hMt.out hm7') (mss_one _) (by omega) (by omega) ?_
    intro A8 c8 w8 ho8 hm8 hA8
    have hA7n : ∀ q, fp A7 q → w1.heap.size ≤ q := by
     rintro q ⟨a, ha, rfl⟩
     rcases hA7 with rfl | rfl <;> cases ha
     exact Nat.le_refl _
    have hm8' : Mod none_ w1 w8 := hm7'.then hm8 (fun q hq hh => by have := hA7n q hh; omega)
    have hF8 : ∀ q, fp A8 q → w1.heap.size ≤ q := by
     intro q hq
     rcases hA8 with rfl | rfl
     ·exact hA7n q hq
     ·obtain ⟨a, ha, rfl⟩ := hq
      cases ha
      exact hm7'.size
    have hnet8 := hnet1.out.mod hm8' (fun h => h)
    have n8 : w8.cell? ⟨nb, 2, none⟩ = some (.slice (some ⟨bM, oM, none⟩) (mn + 1) mc) := hnet8.cell_ rfl
    have f8 := hnet8.frozen 2
    have ln8 := hnet8.lt
    refine hK.out _ _ ((hm8'.any _)) (fun hHeld => ?_)
    clear hK K
    try simp only [Act.put, q1Z, q2Z, q3Z, q4Z, q5Z, q6Z]
    refine tkZ 16 ?_ rfl ?_ ?_
    rotate_left
    ·intro W hSw; (try dsimp only at hSw); go_simp; (try with_reducible rfl)
    try simp only [Act.put, q1Z, q2Z, q3Z, q4Z, q5Z, q6Z]
    refine tkZ 17 ?_ rfl ?_ ?_
    rotate_left
    ·intro W hSw; (try dsimp only at hSw); go_simp; (try with_reducible rfl)
    try simp only [Act.put, q1Z, q2Z, q3Z, q4Z, q5Z, q6Z]
    have hnet9 := hnet8.set_ 2 (.slice A8 mn c8)
    simp only [List.setIfInBounds_toArray, List.set_cons_zero, List.set_cons_succ] at hnet9
    obtain ⟨w9, hw9⟩ : ∃ w9, w9 = w8.setCell ⟨nb, 2, none⟩ (.slice A8 mn c8) := ⟨_, rfl⟩
    have hm89 : Mod (only nb) w8 w9 := by rw [hw9]; exact Mod.setCell (Mod.refl (only nb) w8) (p := ⟨nb, 2, none⟩) (.inl rfl) _
    rw [← hw9] at hnet9
    have hm9 := (hm8'.any (only nb)).trans hm89
    have ho9 : OwM w9 A8 mn c8 ms := by
     have := Ow.mod ho8 hm89 (fun q hq hh => Ow.ne_blk ho8 hnet8 (by decide) (by have e2 : q = nb := hh; rwa [e2] at hq))
     rw [Nat.zero_add, List.nil_append] at this; exact this
    replace hw9 := zH hw9
    replace hnet8 := zH hnet8
    replace hnet9 := zH hnet9
    replace hm89 := zH hm89
    replace ho9 := zH ho9
    replace hm9 := zH hm9
    refine rdZ 18 rfl (fun K hK => ?_)
    go_simp
    first | rw [← hw9.out] | skip
    refine hK.out _ _ (hm9.out) (fun hHeld => ?_)
    clear hK K
    try simp only [Act.put, q1Z, q2Z, q3Z, q4Z, q5Z, q6Z]
    refine wpAnyH_done (by kernel_rfl) ?_ _
    clear hHeld
    have hF8' := zH hF8
    clear ho7 hm7 hA7 ho8 hm8 hA8 hA7n hm8' n8 f8 ln8 hm7' hF8
    go_wp2_with fail
    all_goals go_meet
    exact ⟨rfl, A8, c8, hnet9.out, ho9.out, hF8'.out, hm9.out⟩
  focus
   go_simp
   refine hK.out _ _ ((Mod.refl (only nb) w1).drew) (fun hHeld => ?_)
   clear hK K
   try simp only [Act.put, q1Z, q2Z, q3Z, q4Z, q5Z, q6Z]
   refine tkZ 14 ?_ rfl ?_ ?_
   rotate_left
   ·intro W hSw; have hw1 : IntKind.i64.wrap 1 = 1 := (by decide); have hle1 : (1 : Int) ≤ (mn : Int) + 1 := (by omega); go_simp; (try with_reducible rfl)
   try simp only [Act.put, q1Z, q2Z, q3Z, q4Z, q5Z, q6Z]
   rw [← hAt.out]
   refine rdZ 4 rfl (fun K hK => ?_)
   go_simp
   refine hK.out _ _ ((Mod.refl (only nb) w1).drew) (fun hHeld => ?_)
   clear hK K
   try simp only [Act.put, q1Z, q2Z, q3Z, q4Z, q5Z, q6Z]
   refine tkZ 6 ?_ rfl ?_ ?_
   rotate_left
   ·intro W hSw; (try dsimp only at hSw); go_simp; (try with_reducible rfl)
   try simp only [Act.put, q1Z, q2Z, q3Z, q4Z, q5Z, q6Z]
   refine rdZ 7 rfl (fun K hK => ?_)
   refine step_append_ow (by rfl) (.const (.slice none 0 0)) (.tmp 24) 43 (by rfl) 66 i0 _ 20 216 Tryz.underlying43 hi0 hz0 hz1 hz2 rfl (by omega) none 0 0 [] (by rfl) (Ow.nil _ _ _) (some ⟨bM, oM, none⟩) 0 mc [] (by rfl) rd_zero (fun u hu => by cases hu) (by omega) (by omega) ?_
   intro A7 c7 w7 ho7 hm7 hA7
   have hm7' : Mod none_ w1 w7 := (Mod.refl none_ w1).drew.trans (hm7.mono (fun q ⟨a, ha, _⟩ => by cases ha))
   have n7 : w7.cell? ⟨nb, 2, none⟩ = some (.slice (some ⟨bM, oM, none⟩) (mn + 1) mc) := hm7'.cell_some n1 (fun h => h)
   have ln7 := World.block_lt_of_cell? w7 _ n7
   dsimp only at ln7
   refine hK.out _ _ ((hm7'.any _)) (fun hHeld => ?_)
   clear hK K
   try simp only [Act.put, q1Z, q2Z, q3Z, q4Z, q5Z, q6Z]
   refine rdZ 15 rfl (fun K hK => ?_)
   refine step_append_ow (by rfl) (.tmp 25) (.tmp 32) 43 (by rfl) 66 i0 _ 20 216 Tryz.underlying43 hi0 hz0 hz1 hz2 rfl (by omega) A7 0 c7 [] (by rfl) ho7 At mn (mc - 1) (mss ms) (by rfl) (Rd.mod0 hMt.out hm7') (mss_one _) (by omega) (by omega) ?_
   intro A8 c8 w8 ho8 hm8 hA8
   have hA7n : ∀ q, fp A7 q → w1.heap.size ≤ q := by
    rintro q ⟨a, ha, rfl⟩
    rcases hA7 with rfl | rfl <;> cases ha
    exact Nat.le_refl _
   have hm8' : Mod none_ w1 w8 := hm7'.then hm8 (fun q hq hh => by have := hA7n q hh; omega)
   have hF8 : ∀ q, fp A8 q → w1.heap.size ≤ q := by
    intro q hq
    rcases hA8 with rfl | rfl
    ·exact hA7n q hq
    ·obtain ⟨a, ha, rfl⟩ := hq
     cases ha
     exact hm7'.size
   have hnet8 := hnet1.out.mod hm8' (fun h => h)
   have n8 : w8.cell? ⟨nb, 2, none⟩ = some (.slice (some ⟨bM, oM, none⟩) (mn + 1) mc) := hnet8.cell_ rfl
   have f8 := hnet8.frozen 2
   have ln8 := hnet8.lt
   refine hK.out _ _ ((hm8'.any _)) (fun hHeld => ?_)
   clear hK K
   try simp only [Act.put, q1Z, q2Z, q3Z, q4Z, q5Z, q6Z]
   refine tkZ 16 ?_ rfl ?_ ?_
   rotate_left
   ·intro W hSw; (try dsimp only at hSw); go_simp; (try with_reducible rfl)
   try simp only [Act.put, q1Z, q2Z, q3Z, q4Z, q5Z, q6Z]
   refine tkZ 17 ?_ rfl ?_ ?_
   rotate_left
   ·intro W hSw; (try dsimp only at hSw); go_simp; (try with_reducible rfl)
   try simp only [Act.put, q1Z, q2Z, q3Z, q4Z, q5Z, q6Z]
   have hnet9 := hnet8.set_ 2 (.slice A8 mn c8)
   simp only [List.setIfInBounds_toArray, List.set_cons_zero, List.set_cons_succ] at hnet9
   obtain ⟨w9, hw9⟩ : ∃ w9, w9 = w8.setCell ⟨nb, 2, none⟩ (.slice A8 mn c8) := ⟨_, rfl⟩
   have hm89 : Mod (only nb) w8 w9 := by rw [hw9]; exact Mod.setCell (Mod.refl (only nb) w8) (p := ⟨nb, 2, none⟩) (.inl rfl) _
   rw [← hw9] at hnet9
   have hm9 := (hm8'.any (only nb)).trans hm89
   have ho9 : OwM w9 A8 mn c8 ms := by
    have := Ow.mod ho8 hm89 (fun q hq hh => Ow.ne_blk ho8 hnet8 (by decide) (by have e2 : q = nb := hh; rwa [e2] at hq))
    rw [Nat.zero_add, List.nil_append] at this; exact this
   replace hw9 := zH hw9
   replace hnet8 := zH hnet8
   replace hnet9 := zH hnet9
   replace hm89 := zH hm89
   replace ho9 := zH ho9
   replace hm9 := zH hm9
   refine rdZ 18 rfl (fun K hK => ?_)
   go_simp
   first | rw [← hw9.out] | skip
   refine hK.out _ _ (hm9.out) (fun hHeld => ?_)
   clear hK K
   try simp only [Act.put, q1Z, q2Z, q3Z, q4Z, q5Z, q6Z]
   refine wpAnyH_done (by kernel_rfl) ?_ _
   clear hHeld
   have hF8' := zH hF8
   clear ho7 hm7 hA7 ho8 hm8 hA8 hA7n hm8' n8 f8 ln8 hm7' hF8
   go_wp2_with fail
   all_goals go_meet
   exact ⟨rfl, A8, c8, hnet9.out, ho9.out, hF8'.out, hm9.out⟩
 case rest =>
  obtain ⟨rfl, A8, c8, hnetx, hox, hFx, hmx⟩ := hcut
  have hnw : nb < w.heap.size := h.out.net.lt
  have hMw : Mod (only nb) w wc := (hm1'.out.any _).trans hmx
  have hs1 : w.heap.size < w1.heap.size := hb1.out.lt
  have hsx : w1.heap.size ≤ wc.heap.size := hmx.size
  have hbx := zH (hb1.out.mod hmx (fun e => by have e2 : w.heap.size = nb := e; omega))
  obtain ⟨c1, hc1⟩ : ∃ c1 : Col, c1 = fun q => if q < w.heap.size then col q else if q < wc.heap.size then (97, 0) else (99, 0) := ⟨_, rfl⟩
  have he1 : Ext w col c1 := fun q hq => by rw [hc1]; exact if_pos hq
  have hc97 : ∀ q, w.heap.size ≤ q → q < wc.heap.size → c1 q = (97, 0) := fun q h1 h2 => by rw [hc1]; dsimp only; rw [if_neg (by omega), if_pos h2]
  have hc99 : ∀ q, wc.heap.size ≤ q → c1 q = (99, 0) := fun q h1 => by rw [hc1]; dsimp only; rw [if_neg (by omega), if_neg (by omega)]
  have hrx : ∀ i', i' < 3 → RpM wc c1 i' (b i') (i' : Int) 3 (X i') := fun i' hi' => ((h.out.r i' hi').ext he1).far hMw (by
   rintro j hj hh c _ e
   have e2 : j = nb := hh
   rw [e2, he1 nb hnw, h.out.cn] at e
   simp at e; omega)
  have hGx := hGs.out col w c1 wc _ hG.out he1 hMw (fun j _ hh => by have e2 : j = nb := hh; rw [e2, h.out.cn]; decide)
  have hRx := h.out.R.mod hMw (fun q hq hh => Ow.ne_blk h.out.R h.out.net (by decide) (by have e2 : q = nb := hh; rwa [e2] at hq))
  obtain ⟨gR, curR, hRA, hbR, hsR, hcR⟩ := Ow.form hRx (by omega)
  have hcnx : c1 nb = (3, 0) := (he1 nb hnw).trans h.out.cn
  have hcRx : c1 gR = (3, 1) := by
   have h0 := h.out.cR gR ⟨_, hRA, rfl⟩
   rw [he1 gR (h.out.R.lt gR ⟨_, hRA, rfl⟩)]; exact h0
  have hno3 : ∀ q, (c1 q).1 = 3 ∨ (c1 q).1 = 97 → ¬ owns c1 i q := fun q h1 h2 => by
   unfold owns at h2
   omega
  have kT := zH (hT.out wc.drew c1 ((hrx i hi).mod0 (Mod.refl none_ wc).drew) (hGs.out c1 wc c1 wc.drew none_ hGx (Ext.refl _ _) (Mod.refl none_ wc).drew (fun j _ hh => hh.elim)) hc99)
  have hRcell : ∀ W, Mod (owns c1 i) wc W → W.cell? ⟨gR, i, none⟩ = some (.pointer (some ⟨(b i).q, 0, none⟩)) := fun W hW => by
   have hR2 := hRx.mod hW (fun q hq => hno3 q (.inl (by obtain ⟨a, ha, rfl⟩ := hq; rw [hRA] at ha; cases ha; rw [hcRx])))
   rw [Ow.cell_ hR2 hRA i (by omega)]
   have h9 : ∀ k, k < 3 → (ptrs b 3)[k]? = some (.pointer (some ⟨(b k).q, 0, none⟩)) := by
    intro k hk
    match k, hk with
    | 0, _ => rfl
    | 1, _ => rfl
    | 2, _ => rfl
   exact h9 i hi
  have hi3 : ((i : Nat) : Int) < 3 := by omega
  have hno : Hid (∀ q, (c1 q).1 = 3 ∨ (c1 q).1 = 97 → ¬ owns c1 i q) := zH hno3
  subst hRA
  have hbl : c1 w.heap.size = (97, 0) := hc97 _ (Nat.le_refl _) (by omega)
  clear hc1 hno3
  replace hnetx := zH hnetx
  replace hox := zH hox
  replace hFx := zH hFx
  replace hmx := zH hmx
  replace hMw := zH hMw
  replace he1 := zH he1
  replace hc97 := zH hc97
  replace hc99 := zH hc99
  replace hrx := zH hrx
  replace hGx := zH hGx
  replace hRx := zH hRx
  replace hcnx := zH hcnx
  replace hcRx := zH hcRx
  replace hRcell := zH hRcell
  replace hbR := zH hbR
  replace hcR := zH hcR
  replace hbl := zH hbl
  go_upto_region 3 with fail
  refine wp_region_held_drew (S := fun W => Mod (owns c1 i) wc W) (by kernel_rfl) (Mod.refl (owns c1 i) wc).drew (fun hHeld => ?_)
  refine tkZ 0 ?_ rfl ?_ ?_
  rotate_left
  ·intro W hSw; (try dsimp only at hSw); go_simp; (try with_reducible rfl)
  try simp only [Act.put, q1Z, q2Z, q3Z, q4Z, q5Z, q6Z]
  refine tkZ 1 ?_ rfl ?_ ?_
  rotate_left
  ·intro W hSw; (try dsimp only at hSw); go_simp; (try with_reducible rfl)
  try simp only [Act.put, q1Z, q2Z, q3Z, q4Z, q5Z, q6Z]
  refine tkZ 2 ?_ rfl ?_ ?_
  rotate_left
  ·intro W hSw; (try dsimp only at hSw); go_simp; (try with_reducible rfl)
  try simp only [Act.put, q1Z, q2Z, q3Z, q4Z, q5Z, q6Z]
  refine tkZ 3 ?_ rfl ?_ ?_
  rotate_left
  ·intro W hSw; have c0 : W.cell? ⟨nb, 0, none⟩ = some (.slice (some ⟨gR, 0, none⟩) 3 rc) := (hnetx.out.mod hSw (hno.out _ (.inl (by rw [hcnx.out])))).cell_ rfl; go_simp; (try with_reducible rfl)
  try simp only [Act.put, q1Z, q2Z, q3Z, q4Z, q5Z, q6Z]
  refine tkZ 4 ?_ rfl ?_ ?_
  rotate_left
  ·intro W hSw; (try dsimp only at hSw); go_simp; (try with_reducible rfl)
  try simp only [Act.put, q1Z, q2Z, q3Z, q4Z, q5Z, q6Z]
  refine tkZ 5 ?_ rfl ?_ ?_
  rotate_left
  ·intro W hSw; have c1_ : W.cell? ⟨w.heap.size, 1, none⟩ = some (.int .i64 (i : Int)) := (by rw [← hto.out]; exact (hbx.out.mod hSw (hno.out _ (.inr (by rw [hbl.out])))).cell_ rfl); go_simp; (try with_reducible rfl)
  try simp only [Act.put, q1Z, q2Z, q3Z, q4Z, q5Z, q6Z]
  refine tkZ 6 ?_ rfl ?_ ?_
  rotate_left
  ·intro W hSw; (try dsimp only at hSw); go_simp; (try with_reducible rfl)
  try simp only [Act.put, q1Z, q2Z, q3Z, q4Z, q5Z, q6Z]
  refine tkZ 7 ?_ rfl ?_ ?_
  rotate_left
  ·intro W hSw; have cR := hRcell.out W hSw; go_simp; (try with_reducible rfl)
  try simp only [Act.put, q1Z, q2Z, q3Z, q4Z, q5Z, q6Z]
  refine wpAnyH_take (i := 8) rfl (by kernel_rfl) (by kernel_rfl) (by kernel_rfl) (fun _ _ _ h => h) (yieldsIf_load_mid (by rfl) 66 (.tmp 6) rfl w.heap.size 0 rfl [.int .i64 m.m.frm, .int .i64 m.m.to, .int .i64 m.m.kind, .int .i64 m.m.r.i.r, .int .i64 m.m.r.i.n, .int .i64 m.m.r.bal, .int .i64 m.m.r.st, .int .i64 m.m.r.by_, .int .i64 m.m.r.e.o.c, .int .i64 m.m.r.e.o.s, .int .i64 m.m.r.e.o.k, .string (txt m.m.r.e.o.acct), .string (txt m.m.r.e.o.peer), .int .i64 m.m.r.e.o.sum, .slice m.L.a m.L.n m.L.c, .int .i64 m.m.r.e.o.per, .int .i64 m.m.r.e.o.hold, .string (txt m.m.r.e.o.note), .bool m.m.r.e.none, .slice m.D.a m.D.n m.D.c] _ (fun W hW => Blk.range (hbx.out.mod hW (hno.out _ (.inr (by rw [hbl.out])))) 0 _ rfl) Tryz.underlying66 rfl msg_size) (by assumption) ?_
  try simp only [Act.put, q1Z, q2Z, q3Z, q4Z, q5Z, q6Z]
  refine rdZ 9 rfl (fun K hK => ?_)
  go_simp
  refine kT.out.mono ?_
  rintro e w2 ⟨A2, m2, k2, l, X2, c2, rfl, hl2, hm2n, hr2, hP2, hx2, hm2⟩
  dsimp only
  have hm2' := (Mod.refl (owns c1 i) wc).drew.trans hm2
  refine hK.out _ _ (hm2') (fun hHeld => ?_)
  clear hK K
  try simp only [Act.put, q1Z, q2Z, q3Z, q4Z, q5Z, q6Z]
  refine tkZ 10 ?_ rfl ?_ ?_
  rotate_left
  ·intro W hSw; (try dsimp only at hSw); go_simp; (try with_reducible rfl)
  try simp only [Act.put, q1Z, q2Z, q3Z, q4Z, q5Z, q6Z]
  refine tkZ 11 ?_ rfl ?_ ?_
  rotate_left
  ·intro W hSw; (try dsimp only at hSw); go_simp; (try with_reducible rfl)
  try simp only [Act.put, q1Z, q2Z, q3Z, q4Z, q5Z, q6Z]
  refine tkZ 12 ?_ rfl ?_ ?_
  rotate_left
  ·intro W hSw; (try dsimp only at hSw); go_simp; (try with_reducible rfl)
  try simp only [Act.put, q1Z, q2Z, q3Z, q4Z, q5Z, q6Z]
  refine rdZ 13 rfl (fun K hK => ?_)
  go_simp
  refine hK.out _ _ (hm2') (fun hHeld => ?_)
  clear hK K
  try simp only [Act.put, q1Z, q2Z, q3Z, q4Z, q5Z, q6Z]
  refine rdZ 14 rfl (fun K hK => ?_)
  go_simp
  refine hK.out _ _ (hm2') (fun hHeld => ?_)
  clear hK K
  try simp only [Act.put, q1Z, q2Z, q3Z, q4Z, q5Z, q6Z]
  refine wpAnyH_done (by kernel_rfl) ?_ _
  clear hHeld
  have hA97 : ∀ q, fp A8 q → c1 q = (97, 0) := fun q hq => hc97.out q (by have := hFx.out q hq; omega) (hox.out.lt q hq)
  have hnet2 := hnetx.out.mod hm2' (hno.out _ (.inl (by rw [hcnx.out])))
  have ho2 := Ow.mod hox.out hm2' (fun q hq => hno.out q (.inr (by rw [hA97 q hq])))
  have hR2 := hRx.out.mod hm2' (fun q hq => hno.out q (.inl (by obtain ⟨a, ha, rfl⟩ := hq; cases ha; rw [hcRx.out])))
  have hx2' : Ext wc c1 c2 := hx2
  have hr2' : ∀ i', i' < 3 → i' ≠ i → RpM w2 c2 i' (b i') (i' : Int) 3 (X i') := fun i' hi' hne => ((hrx.out i' hi').ext hx2').far hm2' (by
   intro j hj hh c _ e
   rw [hx2' j hj] at e
   unfold owns at hh
   rw [e] at hh
   simp only at hh
   omega)
  have hc2n : c2 nb = (3, 0) := (hx2' nb hnetx.out.lt).trans hcnx.out
  have hc2R : c2 gR = (3, 1) := (hx2' gR (by have := hbR.out.lt; exact this)).trans hcRx.out
  have hc2A : ∀ q, fp A8 q → c2 q = (97, 0) := fun q hq => (hx2' q (hox.out.lt q hq)).trans (hA97 q hq)
  have n2_ : w2.cell? ⟨nb, 2, none⟩ = some (.slice A8 mn c8) := hnet2.cell_ rfl
  have ln2 := hnet2.lt
  have hwx2 : wc.heap.size ≤ w2.heap.size := hm2'.size
  have hnA : ¬ fp A8 nb := fun hq => by have := hc2A nb hq; rw [hc2n] at this; cases this
  have hMfar : Mod (fun j => (col j).1 < 55) w w2 := (hMw.out.mono (fun j hj => by have e2 : j = nb := hj; rw [e2, h.out.cn]; decide)).then hm2' (fun j hj hh => by
   unfold owns at hh
   rw [he1.out j hj] at hh
   omega)
  have hExt : Ext w col c2 := fun j hj => (hx2' j (by omega)).trans (he1.out j hj)
  have hr2o := zH hr2
  have hP2o := zH hP2
  have hl2o := zH hl2
  clear hm2 hx2 hm2' hx2' hA97 hr2 hP2 hl2 kT n1 ln1
  replace hnet2 := zH hnet2
  replace ho2 := zH ho2
  replace hR2 := zH hR2
  replace hr2' := zH hr2'
  replace hc2n := zH hc2n
  replace hc2R := zH hc2R
  replace hc2A := zH hc2A
  replace hnA := zH hnA
  replace hMfar := zH hMfar
  replace hExt := zH hExt
  go_wp2_with (at_builtin; refine appM rfl (.tmp 53) (.tmp 54) rfl rfl ho2.out rfl hl2o.out (by omega) ?_; intro A9 c9 w3 ho3 hm3 hA9; have hnet3 := hnet2.out.mod hm3 hnA.out; have n3 : w3.cell? ⟨nb, 2, none⟩ = some (.slice A8 mn c8) := hnet3.cell_ rfl; have f3 := hnet3.frozen 2; have ln3 := hnet3.lt)
  obtain ⟨w4, hw4⟩ : ∃ w4, w4 = w3.setCell ⟨nb, 2, none⟩ (.slice A9 (mn + m2) c9) := ⟨_, rfl⟩
  rw [← hw4]
  have hnet4 := hnet3.set_ 2 (.slice A9 (mn + m2) c9)
  simp only [List.setIfInBounds_toArray, List.set_cons_zero, List.set_cons_succ] at hnet4
  rw [← hw4] at hnet4
  have hm34 : Mod (only nb) w3 w4 := by rw [hw4]; exact Mod.setCell (Mod.refl (only nb) w3) (p := ⟨nb, 2, none⟩) (.inl rfl) _
  have hm24 : Mod (fun q => fp A8 q ∨ q = nb) w2 w4 := (hm3.mono fun q h => .inl h).trans (hm34.mono fun q h => .inr h)
  have ho4 := Ow.mod ho3 hm34 (fun q hq hh => Ow.ne_blk ho3 hnet3 (by decide) (by have e2 : q = nb := hh; rwa [e2] at hq))
  have hF51 : ∀ j, j < w2.heap.size → (fp A8 j ∨ j = nb) → (c2 j).1 = 97 ∨ (c2 j).1 = 3 := by
   rintro j hj (hq | rfl)
   ·left; rw [hc2A.out j hq]
   ·right; rw [hc2n.out]
  have hoff : ∀ i', i' < 3 → Off w2 c2 i' [] (fun q => fp A8 q ∨ q = nb) := by
   intro i' hi' j hj hh c _ e
   have := hF51 j hj hh
   rw [e] at this
   simp only at this
   omega
  have hP4 := zH (hPs.out l X2 c2 w2 c2 w4 _ hP2o.out (Ext.refl _ _) hm24 (fun j hj hh => by have := hF51 j hj hh; omega))
  have hS4 := zH (show NetS w4 c2 nb (some ⟨gR, 0, none⟩) DA rc dc A9 (mn + m2) c9 (ms ++ l) b (setF X i X2) from by
   refine ⟨hnet4, hc2n.out, ?_, ?_, Ow.rd ho4, ho4.2.1, ?_⟩
   ·refine hR2.out.mod hm24 (fun q hq hh => ?_)
    obtain ⟨a, ha, rfl⟩ := hq
    cases ha
    rcases hh with hh | hh
    ·have := hc2A.out _ hh; rw [hc2R.out] at this; cases this
    ·dsimp only at hh; rw [hh, hc2n.out] at hc2R; have := hc2R.out; cases this
   ·rintro q ⟨a, ha, rfl⟩
    cases ha
    exact hc2R.out
   ·intro i' hi'
    unfold setF
    by_cases e : i' = i
    ·subst e
     rw [if_pos rfl]
     exact hr2o.out.far hm24 (hoff _ hi')
    ·rw [if_neg e]
     exact (hr2'.out i' hi' e).far hm24 (hoff i' hi'))
  have hM4 := zH (hMfar.out.then hm24 (fun j hj hh => by
   have h1 := hF51 j (Nat.lt_of_lt_of_le hj hMfar.out.size) hh
   rw [hExt.out j hj] at h1
   rcases hh with hq | rfl
   ·have := hFx.out j hq; omega
   ·rw [h.out.cn]; decide))
  clear hnet3 n3 f3 ln3 hnet4 hm34 hm24 ho3 ho4 hm3 hA9 hF51 hoff
  replace hw4 := zH hw4
  go_wp2_with fail
  go_end0
  exact ⟨rfl, A9, mn + m2, c9, l, X2, c2, hS4.out, hP4.out, hExt.out, hM4.out⟩
end Go.Proofs.YtfkfiokkjjnhiaaGreat
