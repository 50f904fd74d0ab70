import Derived.Test.YtfkfiokkjjnhiaaGreatUp41
import Derived.Test.YtfkfiokkjjnhiaaGreatUp15
set_option linter.unusedVariables false
set_option linter.unusedSimpArgs false
set_option maxHeartbeats 16000000
namespace Go.Proofs.YtfkfiokkjjnhiaaGreat
open Go.RowKit
def Beg (w1 : World) (col : Col) (nb : Nat) (RA DA : Option Addr) (rc dc : Nat) (b : Nat → RpB) (s2 s3 s4 : Value) (wx : World) : Prop :=
 s4 = .int .i64 0 ∧ ∃ A c D p hm X c' pi, s2 = .slice A 2 c ∧ s3 = .pointer (some ⟨pi, 0, none⟩) ∧ SubF wx c' nb RA DA rc dc b X A c D p hm ∧ Blk wx pi 27 #[.int .i64 1, .int .i64 1] ∧ c' pi = (97, 0) ∧ Ext w1 col c' ∧ Mod (own col 1) w1 wx
theorem ptrs_get (b : Nat → RpB) {k : Nat} (hk : k < 3) : (ptrs b 3)[k]? = some (.pointer (some ⟨(b k).q, 0, none⟩)) := by
 match k, hk with
 | 0, _ => rfl
 | 1, _ => rfl
 | 2, _ => rfl
theorem SubF.one {w w' : World} {col : Col} {nb : Nat} {RA DA : Option Addr} {rc dc : Nat} {b : Nat → RpB} {X : Nat → RpS} {A : Option Addr} {c : Nat} {D : SV} {p hm : Nat} (h : SubF w col nb RA DA rc dc b X A c D p hm) {pi : Nat} {cs : Array Value} (hb : Blk w pi 27 cs) (hc : col pi = (97, 0)) (hmm : Mod (· = pi) w w') : SubF w' col nb RA DA rc dc b X A c D p hm := by
 have hoff : ∀ i, i < 3 → Off w col i [] (· = pi) := by
  rintro i hi j hj hh c2 _ e
  have e2 : j = pi := hh
  rw [e2, hc] at e
  cases e
  omega
 refine ⟨h.d, ⟨h.N.net.mod hmm (fun e => by have e2 : nb = pi := e; have := h.N.cn; rw [e2, hc] at this; cases this), h.N.cn, h.N.R.mod hmm (fun q hq e => by have e2 : q = pi := e; have := h.N.cR q hq; rw [e2, hc] at this; cases this), h.N.cR, rd_zero, h.N.cap, fun i hi => (h.N.r i hi).far hmm (hoff i hi)⟩, Ow.mod h.o hmm (fun q hq e => Ow.ne_blk h.o hb (by decide) (by have e2 : q = pi := e; rwa [e2] at hq)), h.wts, h.B0, h.B2, h.L, ?_⟩
 exact Lead.still p hm D _ col w col w' _ h.Ld (Ext.refl _ _) hmm (fun j _ hh => by have e2 : j = pi := hh; rw [e2, hc]; decide)
set_option maxRecDepth 100000
theorem lives16_ok (w : World) : Calls Tryz.prog 6 #[] w fun e w' => e = .returned (.bool true) ∧ Mod none_ w w' := by
 go_enter Tryz.func6, Tryz.ntmps6
 go_wp2_with fail
 refine (begin_ok w).mono ?_
 rintro e w1 ⟨nb, RA, DA, rc, dc, dl, b, X, col, rfl, hN, h98, hm01⟩
 dsimp only
 obtain ⟨gR, curR, hRA, hbR, hsR, hcR⟩ := Ow.form hN.R (by omega)
 subst hRA
 have hnet := hN.net
 have hcn := hN.cn
 have ln := hnet.lt
 have hcRg : col gR = (3, 1) := hN.cR gR ⟨_, rfl, rfl⟩
 have hno : ∀ q, (col q = (3, 0) ∨ col q = (3, 1)) → ¬ own col 1 q := fun q h1 h2 => by
  unfold own at h2
  rcases h1 with h1 | h1 <;> rw [h1] at h2 <;> cases h2
 have hRcell : ∀ W, Mod (own col 1) w1 W → W.cell? ⟨gR, 1, none⟩ = some (.pointer (some ⟨(b 1).q, 0, none⟩)) := fun W hW => by
  have hR2 := hN.R.mod hW (fun q hq => hno q (.inr (by obtain ⟨a, ha, rfl⟩ := hq; cases ha; exact hcRg)))
  rw [Ow.cell_ hR2 rfl 1 (by omega)]
  exact ptrs_get b (by omega)
 clear hcR hsR hbR
 replace hN := zH hN
 replace h98 := zH h98
 replace hm01 := zH hm01
 replace hnet := zH hnet
 replace hcn := zH hcn
 replace hcRg := zH hcRg
 replace hno := zH hno
 replace hRcell := zH hRcell
 go_upto_region 4 with fail
 go_cut [2, 3, 4] from 7 to 23 (fun s2 s3 s4 wx => Beg w1 col nb (some ⟨gR, 0, none⟩) DA rc dc b s2 s3 s4 wx)
 case first =>
  refine wp_region_held_drew (S := fun W => Mod (own col 1) w1 W) (by kernel_rfl) (Mod.refl (own col 1) w1).drew (fun hHeld => ?_)
  refine tkZ 0 ?_ rfl ?_ ?_
  rotate_left
  ·intro W hSw; (try dsimp only at hSw); go_simp; (try with_reducible rfl)
  try simp only [Act.put, q1Z, q2Z, q3Z, q4Z, q5Z, q6Z]
  refine tkZ 1 ?_ rfl ?_ ?_
  rotate_left
  ·intro W hSw; (try dsimp only at hSw); go_simp; (try with_reducible rfl)
  try simp only [Act.put, q1Z, q2Z, q3Z, q4Z, q5Z, q6Z]
  refine tkZ 2 ?_ rfl ?_ ?_
  rotate_left
  ·intro W hSw; (try dsimp only at hSw); go_simp; (try with_reducible rfl)
  try simp only [Act.put, q1Z, q2Z, q3Z, q4Z, q5Z, q6Z]
  refine tkZ 3 ?_ rfl ?_ ?_
  rotate_left
  ·intro W hSw; have c0 : W.cell? ⟨nb, 0, none⟩ = some (.slice (some ⟨gR, 0, none⟩) 3 rc) := (hnet.out.mod hSw (hno.out nb (.inl hcn.out))).cell_ rfl; go_simp; (try with_reducible rfl)
  try simp only [Act.put, q1Z, q2Z, q3Z, q4Z, q5Z, q6Z]
  refine tkZ 4 ?_ rfl ?_ ?_
  rotate_left
  ·intro W hSw; (try dsimp only at hSw); go_simp; (try with_reducible rfl)
  try simp only [Act.put, q1Z, q2Z, q3Z, q4Z, q5Z, q6Z]
  refine tkZ 5 ?_ rfl ?_ ?_
  rotate_left
  ·intro W hSw; have cR := hRcell.out W hSw; go_simp; (try with_reducible rfl)
  try simp only [Act.put, q1Z, q2Z, q3Z, q4Z, q5Z, q6Z]
  refine wpAnyH_ready (rs := [6, 12]) (by kernel_rfl) (by simp) ?_
  refine AllReadyH.cons rfl (fun K hK => ?_) (AllReadyH.cons rfl (fun K hK => ?_) AllReadyH.nil)
  focus
   go_simp
   refine (ask1_ok _).mono ?_
   rintro e wA ⟨rfl, hmA⟩
   dsimp only
   have hmA' := zH (((Mod.refl none_ w1).drew).trans hmA)
   have hsA := hmA'.out.size
   clear hmA
   refine hK.out _ _ ((hmA'.out.any _)) (fun hHeld => ?_)
   clear hK K
   try simp only [Act.put, q1Z, q2Z, q3Z, q4Z, q5Z, q6Z]
   refine wpAnyH_ready (rs := [7, 12]) (by kernel_rfl) (by simp) ?_
   refine AllReadyH.cons rfl (fun K hK => ?_) (AllReadyH.cons rfl (fun K hK => ?_) AllReadyH.nil)
   focus
    go_simp
    refine (sub_at w1 wA col nb (some ⟨gR, 0, none⟩) DA rc dc dl b X hN.out hmA'.out).mono ?_
    rintro e wB ⟨A, c, D, p, hm, X', c', rfl, hF, hx, hc97, ⟨F, hmF, hnF⟩, hmB⟩
    dsimp only
    refine hK.out _ _ (hmB) (fun hHeld => ?_)
    clear hK K
    try simp only [Act.put, q1Z, q2Z, q3Z, q4Z, q5Z, q6Z]
    refine tkZ 8 ?_ rfl ?_ ?_
    rotate_left
    ·intro W hSw; (try dsimp only at hSw); go_simp; (try with_reducible rfl)
    try simp only [Act.put, q1Z, q2Z, q3Z, q4Z, q5Z, q6Z]
    refine tkZ 9 ?_ rfl ?_ ?_
    rotate_left
    ·intro W hSw; (try dsimp only at hSw); go_simp; (try with_reducible rfl)
    try simp only [Act.put, q1Z, q2Z, q3Z, q4Z, q5Z, q6Z]
    refine tkZ 10 ?_ rfl ?_ ?_
    rotate_left
    ·intro W hSw; (try dsimp only at hSw); go_simp; (try with_reducible rfl)
    try simp only [Act.put, q1Z, q2Z, q3Z, q4Z, q5Z, q6Z]
    refine tkZ 11 ?_ rfl ?_ ?_
    rotate_left
    ·intro W hSw; (try dsimp only at hSw); go_simp; (try with_reducible rfl)
    try simp only [Act.put, q1Z, q2Z, q3Z, q4Z, q5Z, q6Z]
    refine rdZ 12 rfl (fun K hK => ?_)
    go_simp
    obtain ⟨wC, hwC⟩ : ∃ wC, wC = wB.alloc (.cells #[.int .i64 0, .int .i64 0] 27) := ⟨_, rfl⟩
    have hmC : Mod none_ wB wC := by rw [hwC]; exact (Mod.refl none_ wB).alloc _
    have hbC : Blk wC wB.heap.size 27 #[.int .i64 0, .int .i64 0] := by rw [hwC]; exact Blk.new wB _ _
    have hlC := hbC.lt
    rw [← hwC]
    have hFB := zH ((hF.ext (tint_ext wB c' (97, 0))).mod0 hmC)
    have hcB := tint_new (w := wB) (col := c') (c := (97, 0)) (Nat.le_refl wB.heap.size)
    have hxB : Ext w1 col (tint wB c' (97, 0)) := hx.trans (tint_ext wB c' (97, 0)) hmB.size
    have hM := zH (hmB.trans (hmC.any _))
    have hle := zH (show w1.heap.size ≤ wB.heap.size from hmB.size)
    have hbB := hbC
    clear hF hx hmB hc97 hmF hnF hmC hbC
    replace hbB := zH hbB
    replace hcB := zH hcB
    replace hxB := zH hxB
    replace hwC := zH hwC
    refine hK.out _ _ (hM.out) (fun hHeld => ?_)
    clear hK K
    try simp only [Act.put, q1Z, q2Z, q3Z, q4Z, q5Z, q6Z]
    refine tkZ 13 ?_ rfl ?_ ?_
    rotate_left
    ·intro W hSw; (try dsimp only at hSw); go_simp; (try with_reducible rfl)
    try simp only [Act.put, q1Z, q2Z, q3Z, q4Z, q5Z, q6Z]
    refine rdZ 14 rfl (fun K hK => ?_)
    refine step_store_blk rfl 27 (.tmp 3) (.tmp 19) rfl wB.heap.size 0 _ rfl rfl hbB.out (by simp) inst_size (by rfl) #[.int .i64 1, .int .i64 1] rfl ?_
    intro wD hbD hmD
    have hM2 := hM.out.then hmD (fun j hj e => by have e2 : j = wB.heap.size := e; have := hle.out; omega)
    refine hK.out _ _ (hM2) (fun hHeld => ?_)
    clear hK K
    try simp only [Act.put, q1Z, q2Z, q3Z, q4Z, q5Z, q6Z]
    refine tkZ 15 ?_ rfl ?_ ?_
    rotate_left
    ·intro W hSw; (try dsimp only at hSw); go_simp; (try with_reducible rfl)
    try simp only [Act.put, q1Z, q2Z, q3Z, q4Z, q5Z, q6Z]
    refine wpAnyH_done (by kernel_rfl) ?_ _
    clear hHeld
    have hFD := zH (hFB.out.one hbB.out hcB.out hmD)
    clear hmD
    replace hbD := zH hbD
    replace hM2 := zH hM2
    go_wp2_with fail
    all_goals go_meet
    exact ⟨rfl, A, c, D, p, hm, X', _, _, rfl, rfl, hFD.out, hbD.out, hcB.out, hxB.out, hM2.out⟩
   focus
    go_simp
    obtain ⟨wC, hwC⟩ : ∃ wC, wC = wA.alloc (.cells #[.int .i64 0, .int .i64 0] 27) := ⟨_, rfl⟩
    have hmC : Mod none_ wA wC := by rw [hwC]; exact (Mod.refl none_ wA).alloc _
    have hbC : Blk wC wA.heap.size 27 #[.int .i64 0, .int .i64 0] := by rw [hwC]; exact Blk.new wA _ _
    have hlC := hbC.lt
    rw [← hwC]
    have hmC2 := zH (hmA'.out.trans hmC)
    clear hmC
    replace hwC := zH hwC
    replace hbC := zH hbC
    refine hK.out _ _ ((hmC2.out.any _)) (fun hHeld => ?_)
    clear hK K
    try simp only [Act.put, q1Z, q2Z, q3Z, q4Z, q5Z, q6Z]
    refine rdZ 7 rfl (fun K hK => ?_)
    go_simp
    refine (sub_at w1 wC col nb (some ⟨gR, 0, none⟩) DA rc dc dl b X hN.out hmC2.out).mono ?_
    rintro e wB ⟨A, c, D, p, hm, X', c', rfl, hF, hx, hc97, ⟨F, hmF, hnF⟩, hmB⟩
    dsimp only
    have hcB := hc97 wA.heap.size hsA hlC
    have hbB := hbC.out.mod hmF (hnF wA.heap.size hsA hlC)
    have hle := zH (show w1.heap.size ≤ wA.heap.size from hsA)
    have hFB := zH hF
    have hxB := zH hx
    have hM := zH hmB
    clear hF hx hmB hmF hnF hc97
    replace hcB := zH hcB
    replace hbB := zH hbB
    refine hK.out _ _ (hM.out) (fun hHeld => ?_)
    clear hK K
    try simp only [Act.put, q1Z, q2Z, q3Z, q4Z, q5Z, q6Z]
    refine tkZ 8 ?_ rfl ?_ ?_
    rotate_left
    ·intro W hSw; (try dsimp only at hSw); go_simp; (try with_reducible rfl)
    try simp only [Act.put, q1Z, q2Z, q3Z, q4Z, q5Z, q6Z]
    refine tkZ 9 ?_ rfl ?_ ?_
    rotate_left
    ·intro W hSw; (try dsimp only at hSw); go_simp; (try with_reducible rfl)
    try simp only [Act.put, q1Z, q2Z, q3Z, q4Z, q5Z, q6Z]
    refine tkZ 10 ?_ rfl ?_ ?_
    rotate_left
    ·intro W hSw; (try dsimp only at hSw); go_simp; (try with_reducible rfl)
    try simp only [Act.put, q1Z, q2Z, q3Z, q4Z, q5Z, q6Z]
    refine tkZ 11 ?_ rfl ?_ ?_
    rotate_left
    ·intro W hSw; (try dsimp only at hSw); go_simp; (try with_reducible rfl)
    try simp only [Act.put, q1Z, q2Z, q3Z, q4Z, q5Z, q6Z]
    refine tkZ 13 ?_ rfl ?_ ?_
    rotate_left
    ·intro W hSw; (try dsimp only at hSw); go_simp; (try with_reducible rfl)
    try simp only [Act.put, q1Z, q2Z, q3Z, q4Z, q5Z, q6Z]
    refine rdZ 14 rfl (fun K hK => ?_)
    refine step_store_blk rfl 27 (.tmp 3) (.tmp 19) rfl wA.heap.size 0 _ rfl rfl hbB.out (by simp) inst_size (by rfl) #[.int .i64 1, .int .i64 1] rfl ?_
    intro wD hbD hmD
    have hM2 := hM.out.then hmD (fun j hj e => by have e2 : j = wA.heap.size := e; have := hle.out; omega)
    refine hK.out _ _ (hM2) (fun hHeld => ?_)
    clear hK K
    try simp only [Act.put, q1Z, q2Z, q3Z, q4Z, q5Z, q6Z]
    refine tkZ 15 ?_ rfl ?_ ?_
    rotate_left
    ·intro W hSw; (try dsimp only at hSw); go_simp; (try with_reducible rfl)
    try simp only [Act.put, q1Z, q2Z, q3Z, q4Z, q5Z, q6Z]
    refine wpAnyH_done (by kernel_rfl) ?_ _
    clear hHeld
    have hFD := zH (hFB.out.one hbB.out hcB.out hmD)
    clear hmD
    replace hbD := zH hbD
    replace hM2 := zH hM2
    go_wp2_with fail
    all_goals go_meet
    exact ⟨rfl, A, c, D, p, hm, X', _, _, rfl, rfl, hFD.out, hbD.out, hcB.out, hxB.out, hM2.out⟩
  focus
   go_simp
   obtain ⟨wC, hwC⟩ : ∃ wC, wC = (w1.alloc (.cells #[.int .i64 0, .int .i64 0] 27)).drew := ⟨_, rfl⟩
   have hmC : Mod none_ w1 wC := by rw [hwC]; exact ((Mod.refl none_ w1).alloc _).drew
   have hbC : Blk wC w1.heap.size 27 #[.int .i64 0, .int .i64 0] := by rw [hwC]; exact (Blk.new w1 _ _).mod (Mod.refl none_ _).drew (fun h => h)
   have hlC := hbC.lt
   rw [← hwC]
   have hmC2 := zH hmC
   clear hmC
   replace hwC := zH hwC
   replace hbC := zH hbC
   refine hK.out _ _ ((hmC2.out.any _)) (fun hHeld => ?_)
   clear hK K
   try simp only [Act.put, q1Z, q2Z, q3Z, q4Z, q5Z, q6Z]
   refine rdZ 6 rfl (fun K hK => ?_)
   go_simp
   refine (ask1_ok _).mono ?_
   rintro e wA ⟨rfl, hmA⟩
   dsimp only
   have hbA := hbC.out.mod hmA (fun h => h)
   have hlA := hbA.lt
   have hmA' := zH ((hmC2.out).trans hmA)
   have hsA := hmA'.out.size
   clear hmA
   refine hK.out _ _ ((hmA'.out.any _)) (fun hHeld => ?_)
   clear hK K
   try simp only [Act.put, q1Z, q2Z, q3Z, q4Z, q5Z, q6Z]
   refine rdZ 7 rfl (fun K hK => ?_)
   go_simp
   refine (sub_at w1 wA col nb (some ⟨gR, 0, none⟩) DA rc dc dl b X hN.out hmA'.out).mono ?_
   rintro e wB ⟨A, c, D, p, hm, X', c', rfl, hF, hx, hc97, ⟨F, hmF, hnF⟩, hmB⟩
   dsimp only
   have hcB := hc97 w1.heap.size (Nat.le_refl _) hlA
   have hbB := hbA.mod hmF (hnF w1.heap.size (Nat.le_refl _) hlA)
   have hle := zH (show w1.heap.size ≤ w1.heap.size from (Nat.le_refl _))
   have hFB := zH hF
   have hxB := zH hx
   have hM := zH hmB
   clear hF hx hmB hmF hnF hc97
   replace hcB := zH hcB
   replace hbB := zH hbB
   refine hK.out _ _ (hM.out) (fun hHeld => ?_)
   clear hK K
   try simp only [Act.put, q1Z, q2Z, q3Z, q4Z, q5Z, q6Z]
   refine tkZ 8 ?_ rfl ?_ ?_
   rotate_left
   ·intro W hSw; (try dsimp only at hSw); go_simp; (try with_reducible rfl)
   try simp only [Act.put, q1Z, q2Z, q3Z, q4Z, q5Z, q6Z]
   refine tkZ 9 ?_ rfl ?_ ?_
   rotate_left
   ·intro W hSw; (try dsimp only at hSw); go_simp; (try with_reducible rfl)
   try simp only [Act.put, q1Z, q2Z, q3Z, q4Z, q5Z, q6Z]
   refine tkZ 10 ?_ rfl ?_ ?_
   rotate_left
   ·intro W hSw; (try dsimp only at hSw); go_simp; (try with_reducible rfl)
   try simp only [Act.put, q1Z, q2Z, q3Z, q4Z, q5Z, q6Z]
   refine tkZ 11 ?_ rfl ?_ ?_
   rotate_left
   ·intro W hSw; (try dsimp only at hSw); go_simp; (try with_reducible rfl)
   try simp only [Act.put, q1Z, q2Z, q3Z, q4Z, q5Z, q6Z]
   refine tkZ 13 ?_ rfl ?_ ?_
   rotate_left
   ·intro W hSw; (try dsimp only at hSw); go_simp; (try with_reducible rfl)
   try simp only [Act.put, q1Z, q2Z, q3Z, q4Z, q5Z, q6Z]
   refine rdZ 14 rfl (fun K hK => ?_)
   refine step_store_blk rfl 27 (.tmp 3) (.tmp 19) rfl w1.heap.size 0 _ rfl rfl hbB.out (by simp) inst_size (by rfl) #[.int .i64 1, .int .i64 1] rfl ?_
   intro wD hbD hmD
   have hM2 := hM.out.then hmD (fun j hj e => by have e2 : j = w1.heap.size := e; have := hle.out; omega)
   refine hK.out _ _ (hM2) (fun hHeld => ?_)
   clear hK K
   try simp only [Act.put, q1Z, q2Z, q3Z, q4Z, q5Z, q6Z]
   refine tkZ 15 ?_ rfl ?_ ?_
   rotate_left
   ·intro W hSw; (try dsimp only at hSw); go_simp; (try with_reducible rfl)
   try simp only [Act.put, q1Z, q2Z, q3Z, q4Z, q5Z, q6Z]
   refine wpAnyH_done (by kernel_rfl) ?_ _
   clear hHeld
   have hFD := zH (hFB.out.one hbB.out hcB.out hmD)
   clear hmD
   replace hbD := zH hbD
   replace hM2 := zH hM2
   go_wp2_with fail
   all_goals go_meet
   exact ⟨rfl, A, c, D, p, hm, X', _, _, rfl, rfl, hFD.out, hbD.out, hcB.out, hxB.out, hM2.out⟩
 case rest =>
  obtain ⟨rfl, A, c, D, p, hm, X', c', pi, rfl, rfl, hF, hbp, hcp, hx, hmx⟩ := hcut
  have hle := hmx.size
  have hNw := hF.N
  have hnetx := hNw.net
  have lnx := hnetx.lt
  have f2 := hnetx.frozen 2
  have n2 : wc.cell? ⟨nb, 2, none⟩ = some (.slice none 0 0) := hnetx.cell_ rfl
  have hcA := hF.o.2.1
  have hmxx := zH hmx
  clear hmx
  replace hF := zH hF
  replace hbp := zH hbp
  replace hcp := zH hcp
  replace hx := zH hx
  replace hNw := zH hNw
  replace hnetx := zH hnetx
  go_upto_region 6 with fail
  obtain ⟨w5, hw5⟩ : ∃ w5, w5 = wc.setCell ⟨nb, 2, none⟩ (.slice A 2 c) := ⟨_, rfl⟩
  rw [← hw5]
  have hm5 : Mod (· = nb) wc w5 := by rw [hw5]; exact Mod.setCell (Mod.refl (· = nb) wc) (p := ⟨nb, 2, none⟩) (.inl rfl) _
  have hnet5 : Blk w5 nb 45 #[.slice (some ⟨gR, 0, none⟩) 3 rc, .slice DA 3 dc, .slice A 2 c] := by
   have := hnetx.out.set_ 2 (.slice A 2 c)
   simp only [List.setIfInBounds_toArray, List.set_cons_zero, List.set_cons_succ] at this
   rw [hw5]; exact this
  have hcnx := hNw.out.cn
  have hPh : Ph 0 w5 c' nb (some ⟨gR, 0, none⟩) DA rc dc b 2 := by
   refine ⟨A, c, _, X', ⟨hnet5, hcnx, hNw.out.R.mod hm5 (fun q hq e => by have e2 : q = nb := e; have := hNw.out.cR q hq; rw [e2, hcnx] at this; cases this), hNw.out.cR, ?_, hcA, fun i hi => (hNw.out.r i hi).far hm5 ?_⟩, fun _ => hF.out.wts, D, p, hm, hF.out.d, rfl, hF.out.B0, hF.out.B2, hF.out.L, ?_⟩
   ·exact Ow.rd (Ow.mod hF.out.o hm5 (fun q hq e => Ow.ne_blk hF.out.o hnetx.out (by decide) (by have e2 : q = nb := e; rwa [e2] at hq)))
   ·rintro j hj hh c2 _ e
    have e2 : j = nb := hh
    rw [e2, hcnx] at e
    cases e
    omega
   ·exact Lead.still p hm D _ c' wc c' w5 _ hF.out.Ld (Ext.refl _ _) hm5 (fun j _ hh => by have e2 : j = nb := hh; rw [e2, hcnx]; decide)
  have hb5 := zH (hbp.out.mod hm5 (fun e => by have e2 : pi = nb := e; have := hcp.out; rw [e2, hcnx] at this; cases this))
  have kA := zH (all_ok w5 c' nb (some ⟨gR, 0, none⟩) DA rc dc b 2 hPh)
  have hcnx' := zH hcnx
  have hm5' := zH hm5
  have hpl := hbp.out.lt
  clear hcnx hPh hnet5 hm5 hnetx f2 n2
  replace hw5 := zH hw5
  go_upto_region 7 with fail
  refine kA.out.mono ?_
  rintro e w6 ⟨rfl, c6, hP6, hx6, hm6⟩
  dsimp only
  obtain ⟨MA6, mc6, ms6, X6, hN6, _, D6, hD6, rfl, hf0, hf2⟩ := hP6
  have hb6 := zH (hb5.out.mod hm6 (fun hh => by have h2 : (c' pi).1 < 55 := hh; rw [hcp.out] at h2; exact absurd h2 (by decide)))
  have c60 : w6.cell? ⟨nb, 0, none⟩ = some (.slice (some ⟨gR, 0, none⟩) 3 rc) := hN6.net.cell_ rfl
  have cR2 : w6.cell? ⟨gR, 2, none⟩ = some (.pointer (some ⟨(b 2).q, 0, none⟩)) := by rw [Ow.cell_ hN6.R rfl 2 (by omega)]; exact ptrs_get b (by omega)
  have ln6 := hN6.net.lt
  have lR6 := World.block_lt_of_cell? w6 _ cR2
  dsimp only at lR6
  have kS := zH (slots1_ok w6 (b 2).q (b 2).sl ((hN6.r 2 (by omega)).q.cell_ rfl) D6 hD6 (by have := (hN6.r 2 (by omega)).sl; rw [hf2.S] at this; exact this))
  have hm65 := zH (show Mod (fun j => (col j).1 < 55) w1 w6 from (((hmxx.out.mono (fun j hj => by unfold own at hj; rw [hj]; decide)).then hm5'.out (fun j hj e => by have e2 : j = nb := e; rw [e2, hcn.out]; decide))).then hm6 (fun j hj hh => by have h2 : (c' j).1 < 55 := hh; rwa [hx.out j hj] at h2))
  clear kA hm6 hx6 hb5
  replace hN6 := zH hN6
  replace hf0 := zH hf0
  go_upto_region 8 with fail
  refine kS.out.mono ?_
  rintro e w7 ⟨As, cs, rfl, hoS, hfS, hm7⟩
  dsimp only
  obtain ⟨gS, curS, hAS, hbS, _, _⟩ := Ow.form hoS (by omega)
  subst hAS
  have hN7 := hN6.out.mod0 hm7
  have hb7 := zH (hb6.out.mod hm7 (fun h => h))
  have cS : w7.cell? ⟨gS, 3, none⟩ = some (.int .i64 3) := by rw [Ow.cell_ hoS rfl 3 (by omega)]; rfl
  have lS := hbS.lt
  have c70 : w7.cell? ⟨nb, 0, none⟩ = some (.slice (some ⟨gR, 0, none⟩) 3 rc) := hN7.net.cell_ rfl
  have cR0 : w7.cell? ⟨gR, 0, none⟩ = some (.pointer (some ⟨(b 0).q, 0, none⟩)) := by rw [Ow.cell_ hN7.R rfl 0 (by omega)]; exact ptrs_get b (by omega)
  have ln7 := hN7.net.lt
  have lR7 := World.block_lt_of_cell? w7 _ cR0
  dsimp only at lR7
  have kL := zH (list_ok w7 c6 0 (b 0) _ _ (X6 0) (hN7.r 0 (by omega)) hf0.out.one (by rw [hf0.out.ln]; omega))
  rw [hf0.out.ln] at kL
  have hm7' := zH hm7
  clear hm7 hoS hbS hfS kS
  replace hN7 := zH hN7
  go_wp2_with (refine wpList_step (fun K hK => ?_); rw [if_pos (by rfl)]; refine wp_load_mid 27 (.tmp 3) rfl pi 0 rfl [.int .i64 1, .int .i64 1] _ (Blk.range hb7.out 0 _ rfl) Tryz.underlying27 rfl inst_size ?_; refine hK _ _ ?_)
  refine kL.out.mono ?_
  rintro e w8 ⟨Al, cl, rfl, hm8⟩
  dsimp only
  have hN8 := hN7.out.mod0 hm8
  have hm8' := zH (hm7'.out.trans hm8)
  have kM := zH (maj5_ok w8)
  have c82 : w8.cell? ⟨nb, 2, none⟩ = some (.slice MA6 0 mc6) := hN8.net.cell_ rfl
  have ln8 := hN8.net.lt
  clear hm8 hN7 c60 cR2 ln6 lR6 cS lS c70 cR0 ln7 lR7 kL hb7
  replace hN8 := zH hN8
  go_wp2_with fail
  refine kM.out.mono ?_
  rintro e w9 ⟨rfl, hm9⟩
  dsimp only
  have c92 : w9.cell? ⟨nb, 2, none⟩ = some (.slice MA6 0 mc6) := hm9.cell_some c82 (fun h => h)
  have ln9 := World.block_lt_of_cell? w9 _ c92
  dsimp only at ln9
  have hm9' := zH (hm8'.out.trans hm9)
  clear hm9 c82 ln8 kM
  go_wp2_with fail
  go_ret
  exact ⟨rfl, (hm01.out.then hm65.out (fun j hj hh => by have h2 : (col j).1 < 55 := hh; rw [h98.out j hj] at h2; exact absurd h2 (by decide))).trans hm9'.out⟩
theorem r14aheadU_ok (w : World) (a b : Is) : Calls Tryz.prog 8 #[.agg #[.int .i64 a.r, .int .i64 a.n], .agg #[.int .i64 b.r, .int .i64 b.n]] w fun e w' => e = .returned (.bool (isLt a b)) ∧ Mod none_ w w' := by
 obtain ⟨ar, an⟩ := a
 obtain ⟨br, bn⟩ := b
 have hr : Hid (isLt ⟨ar, an⟩ ⟨br, bn⟩ = decide (ar < br ∨ (ar = br ∧ an < bn))) := zH rfl
 dsimp only
 go_enter Tryz.func8, Tryz.ntmps8
 go_wp2_with fail
 all_goals
  go_ret
  refine ⟨?_, ((Mod.refl none_ w).alloc _).alloc _⟩
  rw [hr.out]
  first | (simp_all; done) | (simp; omega)
theorem sameIs_ok (w : World) (A B : Option Addr) (n m c d : Nat) (a b : List Is) (ha : RdP w A n a) (hb : RdP w B m b) (hn : n ≤ 1000) (hm : m ≤ 1000) :
  Calls Tryz.prog 10 #[.slice A n c, .slice B m d] w fun e w' => e = .returned (.bool (decide (a = b))) ∧ Mod none_ w w' := by
 have hla := ha.len
 have hlb := hb.len
 obtain ⟨res, hres⟩ : ∃ res, decide (a = b) = res := ⟨_, rfl⟩
 rw [hres]
 by_cases h3 : n = m
 case neg =>
  have hz : ((n : Int) != (m : Int)) = true := by simp; omega
  obtain rfl : res = false := by rw [← hres]; exact decide_eq_false (fun h => h3 (by rw [← hla, ← hlb, h]))
  replace h3 := zH h3
  replace hres := zH hres
  replace ha := zH ha
  replace hb := zH hb
  replace hla := zH hla
  replace hlb := zH hlb
  go_enter Tryz.func10, Tryz.ntmps10
  go_wp2_with fail
  go_ret
  exact ⟨rfl, Mod.refl _ _⟩
 case pos =>
 have hz : ((n : Int) != (m : Int)) = false := by simp [h3]
 replace h3 := zH h3
 replace ha := zH ha
 replace hb := zH hb
 replace hla := zH hla
 replace hlb := zH hlb
 go_enter Tryz.func10, Tryz.ntmps10
 go_wp2_with fail
 go_loopg [5] n (fun k x wr => ∃ j : Nat, x = .int .i64 j ∧ j + k = n ∧ (∀ i, i < j → a[i]? = b[i]?) ∧ ∃ q, wr = w.drewN q)
 case atStart => exact ⟨0, rfl, by omega, fun i h => absurd h (Nat.not_lt_zero _), 0, rfl⟩
 case round =>
  obtain ⟨j, rfl, hj, hall, q, hq⟩ := hrel
  by_cases hlt : j < n
  ·have hmq : Mod none_ w (w.drewN q) := (Mod.refl none_ w).drewN q
   have hltM : j < m := by have := h3.out; omega
   obtain ⟨b1, o1, x, e1, -, hx0, a1, a2⟩ := rdp_get (w := w.drewN q) (Rd.mod0 ha.out hmq) hlt
   obtain ⟨b2, o2, y, e2, -, hy0, y1, y2⟩ := rdp_get (w := w.drewN q) (Rd.mod0 hb.out hmq) hltM
   rw [← hq] at a1 a2 y1 y2
   have hne := fun W => neq_is W x y
   unfold isV at hne
   have hend := zH (show Mod none_ w wr by rw [hq]; exact hmq)
   subst e1 e2
   by_cases hxy : x = y
   ·have hn' : ∀ i, i < j + 1 → a[i]? = b[i]? := fun i hi => by
     by_cases e : i = j
     ·rw [e, hx0, hy0, hxy]
     ·exact hall i (by omega)
    simp only [hxy, decide_true, Bool.not_true] at hne a1 a2
    clear hall hmq
    replace hq := zH hq
    replace hn' := zH hn'
    replace hxy := zH hxy
    replace hx0 := zH hx0
    replace hy0 := zH hy0
    go_wp2_with (go_quiet (fail))
    go_roundg (gk - 1)
    case measure => omega
    case rel => exact ⟨j + 1, by go_num, by omega, hn'.out, _, by rw [hq.out, World.drewN_drewN]⟩
   ·have hno : res = false := by
     rw [← hres]
     refine decide_eq_false (fun h => hxy ?_)
     rw [h] at hx0
     rw [hx0] at hy0
     injection hy0
    rw [decide_eq_false hxy, Bool.not_false] at hne
    clear hall hmq
    replace hq := zH hq
    replace hxy := zH hxy
    replace hx0 := zH hx0
    replace hy0 := zH hy0
    replace hno := zH hno
    go_wp2_with (go_quiet (fail))
    go_ret
    exact ⟨by rw [hno.out]; rfl, hend.out.drewN _⟩
  ·have hyes : res = true := by
    rw [← hres]
    refine decide_eq_true ?_
    apply List.ext_getElem?
    intro i
    by_cases hi : i < j
    ·exact hall i hi
    ·rw [List.getElem?_eq_none (by rw [hla.out]; omega), List.getElem?_eq_none (by rw [hlb.out]; have := h3.out; omega)]
   obtain rfl : j = n := by omega
   have hend := zH (show Mod none_ w wr by rw [hq]; exact (Mod.refl none_ w).drewN q)
   clear hall
   replace hq := zH hq
   replace hyes := zH hyes
   go_wp2_with fail
   go_ret
   exact ⟨by rw [hyes.out]; rfl, hend.out⟩
theorem has_ok (w : World) (A : Option Addr) (n c : Nat) (a : List Is) (x : Is) (ha : RdP w A n a) (hn : n ≤ 1000) :
  Calls Tryz.prog 9 #[.slice A n c, .agg #[.int .i64 x.r, .int .i64 x.n]] w fun e w' => e = .returned (.bool (decide (x ∈ a))) ∧ Mod none_ w w' := by
 have hla := ha.len
 obtain ⟨res, hres⟩ : ∃ res, decide (x ∈ a) = res := ⟨_, rfl⟩
 rw [hres]
 obtain ⟨w0, hw0⟩ : ∃ w0, w0 = w.alloc (.cells #[.int .i64 x.r, .int .i64 x.n] 27) := ⟨_, rfl⟩
 have hm0 : Mod none_ w w0 := by rw [hw0]; exact (Mod.refl none_ w).alloc _
 have hb0 : Blk w0 w.heap.size 27 #[.int .i64 x.r, .int .i64 x.n] := by rw [hw0]; exact Blk.new w _ _
 replace ha := zH ha
 replace hla := zH hla
 replace hm0 := zH hm0
 replace hb0 := zH hb0
 go_enter Tryz.func9, Tryz.ntmps9
 go_wp2_with fail
 rw [← hw0]
 replace hw0 := zH hw0
 go_loopg [5] n (fun k y wr => ∃ j : Nat, y = .int .i64 j ∧ j + k = n ∧ (∀ i, i < j → a[i]? ≠ some x) ∧ ∃ q, wr = w0.drewN q)
 case atStart => exact ⟨0, rfl, by omega, fun i h => absurd h (Nat.not_lt_zero _), 0, rfl⟩
 case round =>
  obtain ⟨j, rfl, hj, hall, q, hq⟩ := hrel
  by_cases hlt : j < n
  ·have hmq : Mod none_ w (w0.drewN q) := hm0.out.drewN q
   obtain ⟨b1, o1, y, e1, hmem, hy0, a1, a2⟩ := rdp_get (w := w0.drewN q) (Rd.mod0 ha.out hmq) hlt
   have hbq := hb0.out.drewN q
   have x1 : wr.cell? ⟨w.heap.size, 0, none⟩ = some (.int .i64 x.r) := by rw [hq]; exact hbq.cell_ rfl
   have x2 : wr.cell? ⟨w.heap.size, 1, none⟩ = some (.int .i64 x.n) := by rw [hq]; exact hbq.cell_ rfl
   rw [← hq] at a1 a2
   have heq := fun W => eql_is W y x
   unfold isV at heq
   have hend := zH (show Mod none_ w wr by rw [hq]; exact hmq)
   subst e1
   clear hbq
   by_cases hxy : y = x
   ·have hyes : res = true := by rw [← hres]; exact decide_eq_true (by rw [← hxy]; exact hmem)
    rw [decide_eq_true hxy] at heq
    clear hall hmq
    replace hq := zH hq
    replace hxy := zH hxy
    replace hyes := zH hyes
    replace hy0 := zH hy0
    replace hmem := zH hmem
    go_wp2_with (go_quiet (fail))
    go_ret
    exact ⟨by rw [hyes.out]; rfl, hend.out.drewN _⟩
   ·have hn' : ∀ i, i < j + 1 → a[i]? ≠ some x := fun i hi => by
     by_cases e : i = j
     ·rw [e, hy0]; exact fun h => hxy (Option.some.inj h)
     ·exact hall i (by omega)
    rw [decide_eq_false hxy] at heq
    clear hall hmq
    replace hq := zH hq
    replace hxy := zH hxy
    replace hn' := zH hn'
    replace hy0 := zH hy0
    replace hmem := zH hmem
    go_wp2_with (go_quiet (fail))
    go_roundg (gk - 1)
    case measure => omega
    case rel => exact ⟨j + 1, by go_num, by omega, hn'.out, _, by rw [hq.out, World.drewN_drewN]⟩
  ·have hno : res = false := by
    rw [← hres]
    refine decide_eq_false (fun h => ?_)
    obtain ⟨i, hi1, hi2⟩ := List.getElem_of_mem h
    exact hall i (by rw [hla.out] at hi1; omega) (by rw [List.getElem?_eq_getElem hi1, hi2])
   obtain rfl : j = n := by omega
   have hend := zH (show Mod none_ w wr by rw [hq]; exact hm0.out.drewN q)
   clear hall
   replace hq := zH hq
   replace hno := zH hno
   go_wp2_with fail
   go_ret
   exact ⟨by rw [hno.out]; rfl, hend.out⟩
end Go.Proofs.YtfkfiokkjjnhiaaGreat
